/- Merged by wip/tools/merge.py: DefE DefF DefG DefH. -/
import Derived.Lib.Tables
import Derived.Test.YtolcdlopgbgilaaGreatDoorMz08
import Derived.Test.YtolcdlopgbgilaaGreatDoorMz19

/-! Text DefE. -/
namespace Go.Proofs.YtolcdlopgbgilaaGreatDoor
open Go.RowKit Go.Dray

theorem cp_run {xs : List Int} {i back : Nat} (hb : 1 ≤ back) (hbi : back ≤ i) : ∀ n : Nat, i + n ≤ xs.length → (∀ j, j < n → xs.getD (i - back + j) 0 = xs.getD (i + j) 0) → xs.take i ++ cp (xs.take i) back n = xs.take (i + n) := by
  intro n
  induction n with
  | zero => intro _ _; simp [cp]
  | succ n ih =>
    intro hl he
    have h1 := ih (by omega) (fun j hj => he j (by omega))
    rw [cp, ← List.append_assoc, h1]
    have hlen : (xs.take (i + n)).length = i + n := by rw [List.length_take]; omega
    rw [hlen]
    have e : (xs.take (i + n)).getD (i + n - back) 0 = xs.getD (i + n) 0 := by
      have h2 := he n (by omega)
      rw [← h2, show i - back + n = i + n - back from by omega]
      simp only [List.getD, List.getElem?_take_of_lt (show i + n - back < i + n by omega)]
    rw [e, show i + (n + 1) = i + n + 1 from rfl, List.take_succ_eq_append_getElem (by omega), List.getD, List.getElem?_eq_getElem (show i + n < xs.length by omega)]
    rfl

/-- What is found makes a piece. -/
theorem found_piece {xs : List Int} {n i size back : Nat} (hx : xs.length = n) (hi : i < n) (hz : ∀ z ∈ xs, 0 ≤ z ∧ z ≤ 255) (hn : n ≤ 3000) (h : Found xs n i size back) (x : Piece) (hp : x = if back = 0 then (xs.getD i 0, 0) else ((size : Int), (back : Int))) :
    PieceOk (xs.take i) x ∧ grow1 (xs.take i) x = xs.take (i + size) ∧ i + size ≤ n ∧ 1 ≤ size := by
  have hlen : (xs.take i).length = i := by rw [List.length_take]; omega
  rcases h with ⟨rfl, rfl⟩ | ⟨h1, h2, h3, h4, h5, h6⟩
  · rw [if_pos rfl] at hp
    subst hp
    have hg : xs.getD i 0 = xs[i] := by rw [List.getD, List.getElem?_eq_getElem (by omega)]; rfl
    have hb := hz xs[i] (List.getElem_mem _)
    refine ⟨Or.inl ⟨rfl, by rw [hg]; exact hb.1, by rw [hg]; exact hb.2⟩, ?_, by omega, by omega⟩
    unfold grow1
    rw [if_pos rfl, hg, List.take_succ_eq_append_getElem (by omega)]
  · rw [if_neg (by omega)] at hp
    subst hp
    refine ⟨Or.inr ⟨by simp; omega, by simp; omega, by simp; omega, by simp; omega, by rw [hlen]; simp; omega⟩, ?_, by omega, by omega⟩
    unfold grow1
    rw [if_neg (by simp; omega)]
    simp only [Int.toNat_natCast]
    exact cp_run h3 h4 size (by omega) h6

theorem own_whole {w : World} {B : Nat} {e : TypeId} {A : Option Addr} {n : Nat} {xs : List Value} (h : Own w B e 1 A n n xs) (hn : 0 < n) : ∃ b, A = some ⟨b, 0, none⟩ ∧ B ≤ b ∧ Blk w b e xs.toArray := by
  rcases h.cases.2.2.2 with ⟨_, h0, _⟩ | ⟨g, cur, hA, hB, hb, hs, ht⟩
  · omega
  · refine ⟨g, hA, hB, ?_⟩
    rw [List.take_of_length_le (by rw [Array.length_toList, hs]; omega)] at ht
    rw [← ht]
    exact hb

theorem Fst.put {w w' : World} {f : Nat} {A : Option Addr} {n c : Nat} {xs : List Int} {g h : Nat} {zs : List Int} {i : Nat} (H : Fst w f A n c xs g h zs i) {B bx : Nat} {PA : Option Addr} {pc : Nat} {ps : List Piece} (hp : PSt w B bx PA pc ps) (hu : Upd [some bx, ob PA] w w') (hA : 0 < n → bl A < B) : Fst w' f A n c xs g h zs i :=
  H.upd hu (by simp; exact ⟨fun e => H.blk.ne hp.box (by decide) e, fun e => hp.own.neBlk H.blk (by decide) e.symm⟩) (by simp; exact ⟨fun e => H.map.ne hp.box e, fun e => H.map.neOwn hp.own e.symm⟩)
    (by simp; exact ⟨fun e => H.old.ne hp.box (by decide) e, fun e => hp.own.neBlk H.old (by decide) e.symm⟩)
    (fun hn => by simp; exact ⟨fun e => by have := hA hn; have := hp.bb; omega, fun e => by have := hA hn; have := (hp.own.base e.symm).1; omega⟩)

def RunsPost (w : World) (B bx : Nat) (xs : List Int) (e : Ending) (w' : World) : Prop :=
  e = .returned (.tuple #[]) ∧ ∃ PA c ps, PSt w' B bx PA c ps ∧ PiecesOk ps [] ∧ (expand ps [] = xs ∧ Parsed xs xs.length 0 ps) ∧ Upd [some bx] w w'

/-- The state between two pieces. -/
def RunsAt (w wr : World) (B bx f : Nat) (A : Option Addr) (n c : Nat) (xs : List Int) (g h i : Nat) : Prop :=
  ∃ PA pc ps zs, Fst wr f A n c xs g h zs i ∧ PSt wr B bx PA pc ps ∧ PiecesOk ps [] ∧ (expand ps [] = xs.take i ∧ ParsedTo xs n i ps) ∧ Upd [some bx] w wr ∧ ∀ k, ob PA = some k → w.heap.size ≤ k

set_option maxRecDepth 100000 in
set_option maxHeartbeats 2000000 in
theorem runs_any {w : World} {B bx : Nat} {c0 : Nat} (A : Option Addr) (n c : Nat) (xs : List Int) (hs : Ints .u8 w A n xs) (hz : ∀ z ∈ xs, 0 ≤ z ∧ z ≤ 255) (hn : n ≤ 3000) (hnc : n ≤ c) (H : PSt w B bx none c0 []) (hA : 0 < n → bl A < B) :
    Calls Tryz.prog 62 #[.slice A n c, .func (.func 63) #[] #[.pointer (some ⟨bx, 0, none⟩)]] w (RunsPost w B bx xs) := by
  have HS := Lib.hid hs
  have HZ := Lib.hid hz
  have HP := Lib.hid H
  have HA := Lib.hid hA
  have hshort : decide ((n : Int) ≤ 16000) = true := by simp; omega
  clear hs hz H hA
  have hmk : (Instr.makeMap 135 none).run Tryz.prog w = .ok (.map (some w.heap.size)) (w.alloc (.map #[] 0)) := by
    simp [Instr.makeMap, newObj, Sem.run]
  obtain ⟨w1, hw1⟩ : ∃ w1 : World, w1 = w.alloc (.map #[] 0) := ⟨_, rfl⟩
  obtain ⟨g, hg⟩ : ∃ g, g = w.heap.size := ⟨_, rfl⟩
  have HM1 : Hid (Places w1 g 3 (Last xs n 0)) := by rw [hw1, hg]; exact Places.new _ _ (Last.none xs n)
  have HU1 : Hid (Upd [] w w1) := by rw [hw1]; exact (Upd.refl _ w).alloc _
  have HG : Hid (w.heap.size = g) := hg.symm
  go_enter Tryz.func62, Tryz.ntmps62
  go_wp2_with (refine wpList_mk rfl rfl g el_int 32768 rfl rfl rfl rfl rfl (by omega) (by simp only [maxLen]; omega) (by simp; omega) ?_; intro HA2 w2 hown2 hu2 hob2; obtain ⟨h, rfl, hgh, hold⟩ := own_whole hown2 (by omega))
  rw [HG.out]
  obtain ⟨f, hf⟩ : ∃ f, f = w2.heap.size := ⟨_, rfl⟩
  obtain ⟨w3, hw3⟩ : ∃ w3 : World, w3 = w2.alloc (.cells #[.slice A n c, .map (some g), .slice (some ⟨h, 0, none⟩) 32768 32768, .int .i64 n] 137) := ⟨_, rfl⟩
  rw [← hf, ← hw3]
  rw [← hw1] at hu2
  have hu3 : Upd [] w2 w3 := by rw [hw3]; exact (Upd.refl _ _).alloc _
  have hblk : Blk w3 f 137 #[.slice A n c, .map (some g), .slice (some ⟨h, 0, none⟩) 32768 32768, .int .i64 n] := by rw [hw3, hf]; exact Blk.new _ _ _
  have HU3 : Hid (Upd [] w w3) := (HU1.out.trans hu2).trans hu3
  have HB : Hid (B ≤ w.heap.size) := HP.out.bw
  have hfw : w.heap.size ≤ f := by rw [hf]; exact (HU1.out.trans hu2).size
  have hgw : w.heap.size ≤ g := by omega
  have hhw : w.heap.size ≤ h := by omega
  have HF3 : Hid (Fst w3 f A n c xs g h (List.replicate 32768 0) 0) :=
    ⟨hblk, HS.out.upd HU3.out (by simp), hnc, (HM1.out.upd hu2 (by simp)).upd hu3 (by simp), by have := hold.upd hu3 (by simp); rw [List.map_replicate]; exact this, by simp, fun p hp => by omega, hn,
      fun hp => by have := HA.out hp; have := HB.out; omega, fun hp => by have := HA.out hp; have := HB.out; omega, fun hp => by have := HA.out hp; have := HB.out; omega⟩
  have HP3 : Hid (PSt w3 B bx none c0 []) := HP.out.upd HU3.out (by simp) (by simp)
  have HXL : Hid (xs.length = n) := HS.out.len.out
  have HFW : Hid (w.heap.size ≤ f ∧ w.heap.size ≤ g ∧ w.heap.size ≤ h) := ⟨hfw, hgw, hhw⟩
  clear hu2 hu3 hblk hold hown2 hob2 hw1 hw3 hf hgh hfw hgw hhw hmk HM1 HU1 HG HP hg
  go_loopw [5] (fun v wr => ∃ i : Nat, i ≤ n ∧ v = .int .i64 i ∧ Hid (RunsAt w wr B bx f A n c xs g h i)) (fun v _ => n - (intOf v).toNat)
  case atStart => exact ⟨0, by omega, rfl, none, c0, [], _, HF3.out, HP3.out, trivial, ⟨rfl, ParsedTo.start xs n⟩, HU3.out.mono (by simp), fun k hk => by cases hk⟩
  case round =>
    clear HF3 HP3 HU3
    obtain ⟨i, hi, rfl, HR⟩ := hrel
    by_cases hlt : i < n
    · obtain ⟨PA, pc, ps, zs, hF, hP, hok, hex, hu, hpb⟩ := HR.out
      have HPB := Lib.hid hpb
      have HFr := Lib.hid hF
      have HPr := Lib.hid hP
      have HOK := Lib.hid hok
      have HEX := Lib.hid hex.1
      have HPT := Lib.hid hex.2
      have HUr := Lib.hid hu
      have HPL : Hid (ps.length ≤ 3000) := by
        have h1 := expand_ge ps [] hok
        rw [hex.1, List.length_take] at h1
        simp at h1
        show _ ≤ _
        omega
      clear hF hP hok hex hu hpb HR
      go_wp2_with fail
      refine (find_any HFr.out hlt).mono ?_
      rintro e w4 ⟨size, back, m, rfl, rfl, hfound⟩
      obtain ⟨x, hx⟩ : ∃ x : Piece, x = if back = 0 then (xs.getD i 0, 0) else ((size : Int), (back : Int)) := ⟨_, rfl⟩
      obtain ⟨hxok, hxg, hin, hs1⟩ := found_piece HXL.out hlt HZ.out hn hfound.found x hx
      have hsb : size ≤ 3000 ∧ back ≤ 3000 := by rcases hfound.found with ⟨h1, h2⟩ | ⟨h1, h2, h3, h4, h5, h6⟩ <;> omega
      have HFm := Lib.hid (HFr.out.drewN m)
      have HPm : Hid (PSt (wr.drewN m) B bx PA pc ps) := HPr.out.upd ((Upd.refl [] wr).drewN m) (by simp) (by simp)
      have HUm : Hid (Upd [some bx] w (wr.drewN m)) := HUr.out.drewN m
      have HOK2 : Hid (PiecesOk (ps ++ [x]) []) := HOK.out.snoc (by rw [HEX.out]; exact hxok)
      have HEX2 : Hid (expand (ps ++ [x]) [] = xs.take (i + size)) := by show _ = _; rw [expand_snoc, HEX.out, hxg]
      have HPT2 : Hid (ParsedTo xs n (i + size) (ps ++ [x])) := HPT.out.step hlt hfound hx
      have HX := Lib.hid hx
      generalize wr.drewN m = w5 at HFm HPm HUm ⊢
      clear HFr HPr HUr HOK HEX HPT hxok hxg hfound hx
      have HBA : Hid (0 < n → bl A < B) := HA.out
      by_cases hb0 : back = 0
      · have d4 : ((back : Int) == 0) = true := by simp; omega
        obtain ⟨z, HZI, cz⟩ := HFm.out.src.int hlt
        have hzb := HZ.out z (List.mem_of_getElem? HZI.out)
        obtain ⟨zn, rfl⟩ := Int.eq_ofNat_of_zero_le hzb.1
        have hzn : zn ≤ 255 := by omega
        have ix := HFm.out.src.index el_byte c .i64 i hlt
        have HPUT : Hid (Calls Tryz.prog 63 #[.int .i64 (zn : Int), .int .i64 0, .pointer (some ⟨bx, 0, none⟩)] w5 (PutPost w5 B bx PA (ps ++ [x]))) := by
          have h1 := put_piece HPm.out (by have := HPL.out; omega) zn 0 (by omega) (by omega)
          have h2 := HX.out
          rw [if_pos hb0, List.getD, HZI.out] at h2
          rw [h2]
          exact h1
        clear hzb hb0
        go_wp2_with (first | (go_at_call 63; refine HPUT.out.mono ?_; rintro e w6 ⟨rfl, PA6, pc6, hps6, hu6, hfr6⟩; have HF6 := Lib.hid (HFm.out.put HPm.out hu6 HBA.out); have HP6 := Lib.hid hps6; have HU6 : Hid (Upd [some bx] w w6) := HUm.out.then hu6 (by intro b hb; simp at hb; rcases hb with hb | hb; exact Or.inl (by simp [hb]); exact Or.inr (HPB.out b hb.symm)); have HPB6 : Hid (∀ k, ob PA6 = some k → w.heap.size ≤ k) := (fun k hk => by rcases hfr6 k hk with h | h; exact HPB.out k h; have := HUm.out.size; omega); clear hps6 hu6 hfr6 HFm HPm HUm HPUT) | fail)
        go_loopw [46] (fun v wr => ∃ k : Nat, k ≤ size ∧ v = .int .i64 k ∧ Hid (∃ zs, Fst wr f A n c xs g h zs (i + k) ∧ PSt wr B bx PA6 pc6 (ps ++ [x]) ∧ Upd [some bx] w wr)) (fun v _ => size - (intOf v).toNat)
        case atStart => exact ⟨0, by omega, rfl, zs, HF6.out, HP6.out, HU6.out⟩
        case round =>
          clear HF6 HP6 HU6
          obtain ⟨k, hk, rfl, HR⟩ := hrel
          by_cases hks : k < size
          · obtain ⟨zs1, hF, hP, hu⟩ := HR.out
            have HFr := Lib.hid hF
            have HPr := Lib.hid hP
            have HUr := Lib.hid hu
            clear hF hP hu HR
            have HADD : Hid (∀ W, W = wr → Calls Tryz.prog 90 #[.pointer (some ⟨f, 0, none⟩), .int .i64 ((i : Int) + k)] W (AddPost f A n c xs g h (i + k + 1) W)) := by
              rintro W rfl
              have := add_any HFr.out (by omega)
              rw [Int.natCast_add] at this
              exact this
            go_wp2_with fail
            refine (HADD.out _ rfl).mono ?_
            rintro e w7 ⟨rfl, zs2, hF2, hu2⟩
            have HP7 := Lib.hid (HPr.out.upd hu2 (by simp; exact ⟨fun e => HFr.out.map.ne HPr.out.box e.symm, fun e => HPr.out.box.ne HFr.out.old (by decide) e⟩) (fun k hk => by simp; exact ⟨fun e => HFr.out.map.neOwn HPr.out.own (by rw [hk, e]), fun e => HPr.out.own.neBlk HFr.out.old (by decide) (by rw [hk, e])⟩))
            have HU7 : Hid (Upd [some bx] w w7) := HUr.out.then hu2 (by intro b hb; simp at hb; right; have := HFW.out; rcases hb with rfl | rfl <;> omega)
            have HF7 := Lib.hid hF2
            clear hF2 hu2 HFr HPr HUr HADD
            go_wp2
            go_roundw
            case rel => exact ⟨k + 1, by omega, by go_num, ⟨zs2, HF7.out, HP7.out, HU7.out⟩⟩
            case measure => simp [intOf]; omega
          · obtain rfl : k = size := by omega
            go_wp2
            go_roundw
            case rel =>
              obtain ⟨zs1, hF, hP, hu⟩ := HR.out
              exact ⟨i + k, by omega, by go_num, PA6, pc6, _, zs1, hF, hP, HOK2.out, ⟨HEX2.out, HPT2.out⟩, hu, HPB6.out⟩
            case measure => simp [intOf]; omega
      · have d4 : ((back : Int) == 0) = false := by simp; omega
        have HPUT : Hid (Calls Tryz.prog 63 #[.int .i64 (size : Int), .int .i64 (back : Int), .pointer (some ⟨bx, 0, none⟩)] w5 (PutPost w5 B bx PA (ps ++ [x]))) := by
          have h1 := put_piece HPm.out (by have := HPL.out; omega) size back (by omega) (by omega)
          have h2 := HX.out
          rw [if_neg hb0] at h2
          rw [h2]
          exact h1
        go_wp2_with (first | (go_at_call 63; refine HPUT.out.mono ?_; rintro e w6 ⟨rfl, PA6, pc6, hps6, hu6, hfr6⟩; have HF6 := Lib.hid (HFm.out.put HPm.out hu6 HBA.out); have HP6 := Lib.hid hps6; have HU6 : Hid (Upd [some bx] w w6) := HUm.out.then hu6 (by intro b hb; simp at hb; rcases hb with hb | hb; exact Or.inl (by simp [hb]); exact Or.inr (HPB.out b hb.symm)); have HPB6 : Hid (∀ k, ob PA6 = some k → w.heap.size ≤ k) := (fun k hk => by rcases hfr6 k hk with h | h; exact HPB.out k h; have := HUm.out.size; omega); clear hps6 hu6 hfr6 HFm HPm HUm HPUT) | fail)
        go_loopw [46] (fun v wr => ∃ k : Nat, k ≤ size ∧ v = .int .i64 k ∧ Hid (∃ zs, Fst wr f A n c xs g h zs (i + k) ∧ PSt wr B bx PA6 pc6 (ps ++ [x]) ∧ Upd [some bx] w wr)) (fun v _ => size - (intOf v).toNat)
        case atStart => exact ⟨0, by omega, rfl, zs, HF6.out, HP6.out, HU6.out⟩
        case round =>
          clear HF6 HP6 HU6
          obtain ⟨k, hk, rfl, HR⟩ := hrel
          by_cases hks : k < size
          · obtain ⟨zs1, hF, hP, hu⟩ := HR.out
            have HFr := Lib.hid hF
            have HPr := Lib.hid hP
            have HUr := Lib.hid hu
            clear hF hP hu HR
            have HADD : Hid (∀ W, W = wr → Calls Tryz.prog 90 #[.pointer (some ⟨f, 0, none⟩), .int .i64 ((i : Int) + k)] W (AddPost f A n c xs g h (i + k + 1) W)) := by
              rintro W rfl
              have := add_any HFr.out (by omega)
              rw [Int.natCast_add] at this
              exact this
            go_wp2_with fail
            refine (HADD.out _ rfl).mono ?_
            rintro e w7 ⟨rfl, zs2, hF2, hu2⟩
            have HP7 := Lib.hid (HPr.out.upd hu2 (by simp; exact ⟨fun e => HFr.out.map.ne HPr.out.box e.symm, fun e => HPr.out.box.ne HFr.out.old (by decide) e⟩) (fun k hk => by simp; exact ⟨fun e => HFr.out.map.neOwn HPr.out.own (by rw [hk, e]), fun e => HPr.out.own.neBlk HFr.out.old (by decide) (by rw [hk, e])⟩))
            have HU7 : Hid (Upd [some bx] w w7) := HUr.out.then hu2 (by intro b hb; simp at hb; right; have := HFW.out; rcases hb with rfl | rfl <;> omega)
            have HF7 := Lib.hid hF2
            clear hF2 hu2 HFr HPr HUr HADD
            go_wp2
            go_roundw
            case rel => exact ⟨k + 1, by omega, by go_num, ⟨zs2, HF7.out, HP7.out, HU7.out⟩⟩
            case measure => simp [intOf]; omega
          · obtain rfl : k = size := by omega
            go_wp2
            go_roundw
            case rel =>
              obtain ⟨zs1, hF, hP, hu⟩ := HR.out
              exact ⟨i + k, by omega, by go_num, PA6, pc6, _, zs1, hF, hP, HOK2.out, ⟨HEX2.out, HPT2.out⟩, hu, HPB6.out⟩
            case measure => simp [intOf]; omega
    · obtain rfl : i = n := by omega
      go_wp2
      go_end0
      obtain ⟨PA, pc, ps, zs, hF, hP, hok, hex, hu, -⟩ := HR.out
      exact ⟨rfl, PA, pc, ps, hP, hok, ⟨by rw [hex.1, List.take_of_length_le (by rw [HXL.out]; omega)], by rw [HXL.out]; exact hex.2.all⟩, hu⟩

end Go.Proofs.YtolcdlopgbgilaaGreatDoor

/-! Text DefF. -/
namespace Go.Proofs.YtolcdlopgbgilaaGreatDoor
open Go.RowKit Go.Dray

def ParsePost (w : World) (xs : List Int) (e : Ending) (w' : World) : Prop :=
  ∃ PA c ps, e = .returned (.slice PA (List.length ps) c) ∧ Own w' w.heap.size 106 2 PA (List.length ps) c (pcells ps) ∧ PiecesOk ps [] ∧ (expand ps [] = xs ∧ Parsed xs xs.length 0 ps) ∧ Upd [] w w'

set_option maxRecDepth 100000 in
set_option maxHeartbeats 1000000 in
theorem parse_bytes (A : Option Addr) (n c : Nat) (xs : List Int) (w : World) (hs : Ints .u8 w A n xs) (hz : ∀ z ∈ xs, 0 ≤ z ∧ z ≤ 255) (hn : n ≤ 3000) (hnc : n ≤ c) :
    Calls Tryz.prog 29 #[.slice A n c] w (ParsePost w xs) := by
  have HS := Lib.hid hs
  have HZ := Lib.hid hz
  clear hs hz
  obtain ⟨w1, hw1⟩ : ∃ w1 : World, w1 = w.alloc (.cells #[.slice none 0 0] 68) := ⟨_, rfl⟩
  obtain ⟨bx, hbx⟩ : ∃ bx, bx = w.heap.size := ⟨_, rfl⟩
  have hu1 : Upd [] w w1 := by rw [hw1]; exact (Upd.refl _ w).alloc _
  have hb1 : Blk w1 bx 68 #[.slice none 0 0] := by rw [hw1, hbx]; exact Blk.new _ _ _
  have HP1 : Hid (PSt w1 bx bx none 0 []) := ⟨hb1, Own.nil _ _ _ _, Nat.le_refl _, by rw [hbx]; exact hu1.size⟩
  have HS1 := Lib.hid (HS.out.upd hu1 (by simp))
  have HA : Hid (0 < n → bl A < bx) := fun hp => by rw [hbx]; exact Seg.lt HS.out hp (by omega)
  have HU1 := Lib.hid hu1
  have HBX : Hid (w.heap.size = bx) := hbx.symm
  have hmf : ∀ (fn : Fn) (first cap : Array Value) (w : World), (Instr.makeFunc fn first cap).run Tryz.prog w = .ok (.func fn first cap) w := fun _ _ _ _ => rfl
  clear hu1 hb1
  go_enter Tryz.func29, Tryz.ntmps29
  go_wp2_with fail
  rw [← hw1, ← hbx]
  clear hw1 hbx
  refine (runs_any A n c xs HS1.out HZ.out hn hnc HP1.out HA.out).mono ?_
  rintro e w2 ⟨rfl, PA, pc, ps, hps, hok, hex, hu2⟩
  have HPS := Lib.hid hps
  have HOK := Lib.hid hok
  have HEX := Lib.hid hex
  have HU2 : Hid (Upd [] w w2) := HU1.out.then hu2 (by intro b hb; simp at hb; rw [hb]; right; exact Nat.le_of_eq HBX.out)
  have k0 := hps.box.cell 0
  simp at k0
  clear hps hok hex hu2
  go_wp2
  go_ret
  refine ⟨PA, pc, ps, rfl, ?_, HOK.out, HEX.out, HU2.out⟩
  rw [HBX.out]
  exact HPS.out.own

end Go.Proofs.YtolcdlopgbgilaaGreatDoor

/-! Text DefG. -/
namespace Go.Proofs.YtolcdlopgbgilaaGreatDoor
open Go.RowKit Go.Dray Go.Lib

theorem len8_small : ∀ x : Nat, x < 256 → len8 (x : Int) = if x = 0 then 0 else ((x.log2 : Nat) : Int) + 1 := by decide +kernel
theorem log2_hi {x : Nat} (h1 : 256 ≤ x) (h2 : x < 65536) : (x / 256).log2 + 8 = x.log2 ∧ x.log2 < 16 := by
  have h0 : x / 256 ≠ 0 := by omega
  have a := Nat.log2_self_le h0
  have b : x / 256 < 2 ^ ((x / 256).log2 + 1) := Nat.lt_log2_self
  have c : (x / 256).log2 < 8 := (Nat.log2_lt h0 (k := 8)).2 (by omega)
  have e : x.log2 = (x / 256).log2 + 8 := by
    refine log2_of ?_ ?_
    · rw [Nat.pow_add]
      have := Nat.mul_le_mul_right 256 a
      omega
    · rw [show (x / 256).log2 + 8 + 1 = (x / 256).log2 + 1 + 8 from by omega, Nat.pow_add]
      have := Nat.mul_le_mul_right 256 (Nat.succ_le_of_lt b)
      omega
  omega

set_option maxRecDepth 100000 in
set_option maxHeartbeats 1000000 in
theorem len64_any (x : Nat) (h1 : 1 ≤ x) (h2 : x < 65536) (w : World) : Calls Tryz.prog 113 #[.int .u64 x] w fun e w' => e = .returned (.int .i64 ((x.log2 : Nat) + 1)) ∧ w = w' := by
  have d1 : decide ((4294967296 : Int) ≤ x) = false := by simp; omega
  have d2 : decide ((65536 : Int) ≤ x) = false := by simp; omega
  by_cases h : x < 256
  · have d3 : decide ((256 : Int) ≤ x) = false := by simp; omega
    have HL : Hid (len8 (x : Int) = ((x.log2 : Nat) : Int) + 1) := by
      have := len8_small x h
      rw [if_neg (by omega)] at this
      exact this
    have HB : Hid (x.log2 < 16) := (Nat.log2_lt (by omega) (k := 16)).2 (by omega)
    have hx : (x : Int) ≤ 255 := by omega
    go_enter Tryz.func113, Tryz.ntmps113
    go_wp2
    go_ret
    have hb := HB.out
    exact ⟨ret_int (by rw [HL.out, IntWalk.wrap64_in (((x.log2 : Nat) : Int) + 1) (by omega)]; exact IntWalk.wrap64_in _ (by omega)), rfl⟩
  · have d3 : decide ((256 : Int) ≤ x) = true := by simp; omega
    obtain ⟨y, hy⟩ : ∃ y, y = x / 256 := ⟨_, rfl⟩
    have hy2 : (x : Int) / 256 = (y : Int) := by omega
    have hlg := log2_hi (x := x) (by omega) h2
    have HL : Hid (len8 (y : Int) = ((x.log2 : Nat) : Int) - 7 ∧ x.log2 < 16 ∧ 8 ≤ x.log2) := by
      have := len8_small y (by omega)
      rw [if_neg (by omega)] at this
      show _ ∧ _
      rw [this, hy]
      omega
    have hy3 : (y : Int) ≤ 255 := by omega
    clear hy hlg
    go_enter Tryz.func113, Tryz.ntmps113
    go_wp2
    go_ret
    have hb := HL.out.2
    refine ⟨ret_int ?_, rfl⟩
    rw [HL.out.1, IntWalk.wrap64_in (((x.log2 : Nat) : Int) - 7) (by omega), IntWalk.wrap64_in _ (by omega)]
    omega

set_option maxRecDepth 100000 in
theorem len_any (x : Nat) (h1 : 1 ≤ x) (h2 : x < 65536) (w : World) : Calls Tryz.prog 88 #[.int .u64 x] w fun e w' => e = .returned (.int .i64 ((x.log2 : Nat) + 1)) ∧ w = w' := by
  obtain ⟨L, hL⟩ : ∃ L : Int, L = (x.log2 : Nat) + 1 := ⟨_, rfl⟩
  have H : Hid (∀ W : World, Calls Tryz.prog 113 #[.int .u64 x] W fun e w' => e = .returned (.int .i64 L) ∧ W = w') := fun W => by
    rw [hL]
    exact len64_any x h1 h2 W
  rw [← hL]
  clear hL h1 h2
  go_enter Tryz.func88, Tryz.ntmps88
  go_wp2_with (go_at_call 113; refine (H.out _).mono ?_; rintro e w' ⟨rfl, rfl⟩)
  go_ret
  exact ⟨rfl, rfl⟩

theorem and_mask {v k : Nat} (hv : v < 2 ^ 32) (hk : k ≤ 32) : bits .and .i64 (v : Int) (2 ^ k - 1) = (v : Int) % 2 ^ k := by
  have hp := Nat.two_pow_pos k
  have hp2 : 2 ^ k ≤ 2 ^ 32 := Nat.pow_le_pow_right (by omega) hk
  have e0 : ((2 : Int) ^ k - 1) = ((2 ^ k - 1 : Nat) : Int) := by
    have : ((2 ^ k : Nat) : Int) = (2 : Int) ^ k := by simp
    omega
  have e1 : (v : Int) % 2 ^ k = ((v % 2 ^ k : Nat) : Int) := by simp
  have hm := Nat.mod_lt v hp
  unfold bits
  have h1 : (BitVec.ofInt IntKind.i64.bits (v : Int) &&& BitVec.ofInt IntKind.i64.bits (2 ^ k - 1)).toNat = v % 2 ^ k := by
    rw [BitVec.toNat_and, e0]
    show (BitVec.ofInt 64 ((v : Nat) : Int)).toNat &&& (BitVec.ofInt 64 ((2 ^ k - 1 : Nat) : Int)).toNat = _
    rw [BitVec.ofInt_natCast, BitVec.ofInt_natCast, BitVec.toNat_ofNat, BitVec.toNat_ofNat, Nat.mod_eq_of_lt (by omega), Nat.mod_eq_of_lt (by omega), Nat.and_two_pow_sub_one_eq_mod]
  simp only [h1]
  rw [e1, IntKind.wrap_i64]
  omega

theorem pow2_d14 (k : Nat) (h : k ≤ 14) : (1 : Int) ≤ 2 ^ k ∧ (2 : Int) ^ k ≤ 16384 := by
  have h1 : ∀ k, k ≤ 14 → (1 : Int) ≤ 2 ^ k ∧ (2 : Int) ^ k ≤ 16384 := by decide
  exact h1 k h
/-- Three numbers are handed back, as they are told of a size or a distance. -/
def DSymPost (x : Int × Int × Nat) (w : World) (e : Ending) (w' : World) : Prop := e = .returned (.tuple #[.int .i64 x.1, .int .i64 x.2.1, .int .i64 (x.2.2 : Nat)]) ∧ ∃ m, w' = w.drewN m

theorem sym_nums {k v a b : Nat} (hk : k ≤ 14) (hv : v < 65536) (ha : a ≤ 300) (hb : b ≤ 4) : wrap64 (wrap64 ((a : Int) + b * ((k : Int) + 1) + (v : Int) / 2 ^ k) - b) = (a : Int) + b * ((k : Int) + 1) + (v : Int) / 2 ^ k - b ∧ bits .and .i64 (v : Int) (wrap64 (wrap64 (2 ^ k) - 1)) = (v : Int) % 2 ^ k := by
  have hp := pow2_d14 k hk
  have hd : 0 ≤ (v : Int) / 2 ^ k ∧ (v : Int) / 2 ^ k ≤ 65536 := by
    have h1 : (0 : Int) ≤ v := by omega
    refine ⟨Int.ediv_nonneg h1 (by omega), ?_⟩
    have := Int.ediv_le_self (2 ^ k) h1
    omega
  have hm : 0 ≤ (b : Int) * ((k : Int) + 1) ∧ (b : Int) * ((k : Int) + 1) ≤ 60 := by
    have e : (b : Int) * ((k : Int) + 1) = ((b * (k + 1) : Nat) : Int) := by simp
    have h2 : b * (k + 1) ≤ 4 * 15 := Nat.mul_le_mul hb (by omega)
    omega
  constructor
  · rw [IntWalk.wrap64_in ((a : Int) + b * ((k : Int) + 1) + (v : Int) / 2 ^ k) (by omega)]
    exact IntWalk.wrap64_in _ (by omega)
  · rw [IntWalk.wrap64_in ((2 : Int) ^ k) (by omega), IntWalk.wrap64_in ((2 : Int) ^ k - 1) (by omega)]
    exact and_mask (by omega) (by omega)

set_option maxRecDepth 100000 in
set_option maxHeartbeats 1000000 in
theorem lengthSymbol_any (size : Nat) (h1 : 3 ≤ size) (h2 : size ≤ 258) (w : World) : Calls Tryz.prog 60 #[.int .i64 size] w (DSymPost (lsym size) w) := by
  by_cases h258 : size = 258
  · subst h258
    go_enter Tryz.func60, Tryz.ntmps60
    go_wp2
    go_ret3
    exact ⟨rfl, 0, rfl⟩
  · obtain ⟨v, rfl⟩ : ∃ v, size = v + 3 := ⟨size - 3, by omega⟩
    have d1 : (((v + 3 : Nat) : Int) == 258) = false := by simp; omega
    have d1' : ((v : Int) + 3 == 258) = false := by simp; omega
    by_cases h8 : v < 8
    · have d2 : decide ((v : Int) < 8) = true := by simp; omega
      have HE : Hid (lsym ((v + 3 : Nat) : Int) = (257 + (v : Int), 0, 0)) := by
        show _ = _
        unfold lsym
        rw [if_neg (by omega), if_pos (by omega), show ((v + 3 : Nat) : Int) - 3 = (v : Int) from by omega]
      clear h258
      go_enter Tryz.func60, Tryz.ntmps60
      go_wp2
      go_ret3
      exact ⟨by rw [HE.out]; rfl, 0, rfl⟩
    · have d2 : decide ((v : Int) < 8) = false := by simp; omega
      have hlg : 3 ≤ v.log2 := (Nat.le_log2 (by omega) (k := 3)).2 (by omega)
      have hlg2 : v.log2 < 8 := (Nat.log2_lt (by omega) (k := 8)).2 (by omega)
      obtain ⟨k, hk⟩ : ∃ k, k = v.log2 - 2 := ⟨_, rfl⟩
      have HLEN : Hid (∀ W : World, Calls Tryz.prog 88 #[.int .u64 v] W fun e w' => e = .returned (.int .i64 ((k : Int) + 3)) ∧ W = w') := fun W => by
        have := len_any v (by omega) (by omega) W
        rw [show ((v.log2 : Nat) : Int) + 1 = (k : Int) + 3 from by omega] at this
        exact this
      have HE : Hid (lsym ((v + 3 : Nat) : Int) = (257 + 4 * ((k : Int) + 1) + (v : Int) / 2 ^ k - 4, (v : Int) % 2 ^ k, k)) := by
        show _ = _
        unfold lsym
        rw [if_neg (by omega), if_neg (by omega), show ((v + 3 : Nat) : Int) - 3 = (v : Int) from by omega, Int.toNat_natCast, ← hk]
      have hk14 : k ≤ 14 := by omega
      have hv : v < 65536 := by omega
      have HN := Lib.hid (sym_nums (k := k) (v := v) (a := 257) (b := 4) hk14 hv (by omega) (by omega))
      clear h258 hlg hlg2 hk
      go_enter Tryz.func60, Tryz.ntmps60
      go_wp2_with (go_at_call 88; refine (HLEN.out _).mono ?_; rintro e w' ⟨rfl, rfl⟩)
      go_quiet (fail)
      go_wp2
      go_ret3
      have e1 := HN.out.1
      have e2 := HN.out.2
      refine ⟨?_, nq, rfl⟩
      show Ending.returned (.tuple #[.int .i64 (wrap64 (wrap64 (((257 : Nat) : Int) + ((4 : Nat) : Int) * ((k : Int) + 1) + (v : Int) / 2 ^ k) - ((4 : Nat) : Int))), .int .i64 (bits .and .i64 (v : Int) (wrap64 (wrap64 (2 ^ k) - 1))), .int .i64 k]) = _
      rw [e1, e2, HE.out]
      rfl

set_option maxRecDepth 100000 in
set_option maxHeartbeats 1000000 in
theorem distanceSymbol_any (back : Nat) (h1 : 1 ≤ back) (h2 : back ≤ 32768) (w : World) : Calls Tryz.prog 61 #[.int .i64 back] w (DSymPost (dsym back) w) := by
  obtain ⟨v, rfl⟩ : ∃ v, back = v + 1 := ⟨back - 1, by omega⟩
  by_cases h4 : v < 4
  · have d2 : decide ((v : Int) < 4) = true := by simp; omega
    have HE : Hid (dsym ((v + 1 : Nat) : Int) = ((v : Int), 0, 0)) := by
      show _ = _
      unfold dsym
      rw [if_pos (by omega), show ((v + 1 : Nat) : Int) - 1 = (v : Int) from by omega]
    go_enter Tryz.func61, Tryz.ntmps61
    go_wp2
    go_ret3
    exact ⟨by rw [HE.out]; rfl, 0, rfl⟩
  · have d2 : decide ((v : Int) < 4) = false := by simp; omega
    have hlg : 2 ≤ v.log2 := (Nat.le_log2 (by omega) (k := 2)).2 (by omega)
    have hlg2 : v.log2 < 15 := (Nat.log2_lt (by omega) (k := 15)).2 (by omega)
    obtain ⟨k, hk⟩ : ∃ k, k = v.log2 - 1 := ⟨_, rfl⟩
    have HLEN : Hid (∀ W : World, Calls Tryz.prog 88 #[.int .u64 v] W fun e w' => e = .returned (.int .i64 ((k : Int) + 2)) ∧ W = w') := fun W => by
      have := len_any v (by omega) (by omega) W
      rw [show ((v.log2 : Nat) : Int) + 1 = (k : Int) + 2 from by omega] at this
      exact this
    have HE : Hid (dsym ((v + 1 : Nat) : Int) = (2 * ((k : Int) + 1) + (v : Int) / 2 ^ k - 2, (v : Int) % 2 ^ k, k)) := by
      show _ = _
      unfold dsym
      rw [if_neg (by omega), show ((v + 1 : Nat) : Int) - 1 = (v : Int) from by omega, Int.toNat_natCast, ← hk]
    have hk14 : k ≤ 14 := by omega
    have hv : v < 65536 := by omega
    have HN := Lib.hid (sym_nums (k := k) (v := v) (a := 0) (b := 2) hk14 hv (by omega) (by omega))
    clear hlg hlg2 hk
    go_enter Tryz.func61, Tryz.ntmps61
    go_wp2_with (go_at_call 88; refine (HLEN.out _).mono ?_; rintro e w' ⟨rfl, rfl⟩)
    go_quiet (fail)
    go_wp2
    go_ret3
    have e1 := HN.out.1
    have e2 := HN.out.2
    rw [show ((0 : Nat) : Int) + ((2 : Nat) : Int) * ((k : Int) + 1) = 2 * ((k : Int) + 1) from by omega] at e1
    refine ⟨?_, nq, rfl⟩
    show Ending.returned (.tuple #[.int .i64 (wrap64 (wrap64 (2 * ((k : Int) + 1) + (v : Int) / 2 ^ k) - ((2 : Nat) : Int))), .int .i64 (bits .and .i64 (v : Int) (wrap64 (wrap64 (2 ^ k) - 1))), .int .i64 k]) = _
    rw [e1, e2, HE.out]
    rfl

end Go.Proofs.YtolcdlopgbgilaaGreatDoor

/-! Text DefH. -/
namespace Go.Proofs.YtolcdlopgbgilaaGreatDoor
open Go.RowKit Go.Dray

/-- The fixed lengths are the call's own. -/
def DFixPost (w : World) (e : Ending) (w' : World) : Prop := ∃ LA lc DA dc, e = .returned (.tuple #[.slice LA 288 lc, .slice DA 32 dc]) ∧ Own w' w.heap.size 3 1 LA 288 lc (fixedL.map (Value.int .i64)) ∧ Own w' w.heap.size 3 1 DA 32 dc (fixedD.map (Value.int .i64)) ∧ Upd [] w w'
set_option maxRecDepth 100000 in
set_option maxHeartbeats 2000000 in
theorem dfixed_any (w : World) : Calls Tryz.prog 27 #[] w (DFixPost w) := by
  go_enter Tryz.func27, Tryz.ntmps27
  go_wp2_with fail
  refine (repeatI_any _ 1 8 144 _ (Seg.one w _ _) (by omega) (by omega) (by decide)).mono ?_
  rintro e w1 ⟨R1, c1, rfl, ho1, hv1⟩
  have hu1 : Upd [] w w1 := ((Upd.refl [] w).alloc _).trans hv1
  have hi1 := Ints.ofOwn ho1
  clear ho1 hv1
  go_wp2_with fail
  refine (repeatI_any _ 1 9 112 _ (Seg.one w1 _ _) (by omega) (by omega) (by decide)).mono ?_
  rintro e w2 ⟨R2, c2, rfl, ho2, hv2⟩
  have hu2 : Upd [] w1 w2 := ((Upd.refl [] w1).alloc _).trans hv2
  have hi2 := Ints.ofOwn ho2
  clear ho2 hv2
  have hi1' := hi1.upd hu2 (by simp)
  clear hi1
  have hi1 := hi1'
  clear hi1'
  go_wp2_with fail
  refine (repeatI_any _ 1 7 24 _ (Seg.one w2 _ _) (by omega) (by omega) (by decide)).mono ?_
  rintro e w3 ⟨R3, c3, rfl, ho3, hv3⟩
  have hu3 : Upd [] w2 w3 := ((Upd.refl [] w2).alloc _).trans hv3
  have hi3 := Ints.ofOwn ho3
  clear ho3 hv3
  have hi1' := hi1.upd hu3 (by simp)
  clear hi1
  have hi1 := hi1'
  clear hi1'
  have hi2' := hi2.upd hu3 (by simp)
  clear hi2
  have hi2 := hi2'
  clear hi2'
  go_wp2_with fail
  refine (repeatI_any _ 1 8 8 _ (Seg.one w3 _ _) (by omega) (by omega) (by decide)).mono ?_
  rintro e w4 ⟨R4, c4, rfl, ho4, hv4⟩
  have hu4 : Upd [] w3 w4 := ((Upd.refl [] w3).alloc _).trans hv4
  have hi4 := Ints.ofOwn ho4
  clear ho4 hv4
  have hi1' := hi1.upd hu4 (by simp)
  clear hi1
  have hi1 := hi1'
  clear hi1'
  have hi2' := hi2.upd hu4 (by simp)
  clear hi2
  have hi2 := hi2'
  clear hi2'
  have hi3' := hi3.upd hu4 (by simp)
  clear hi3
  have hi3 := hi3'
  clear hi3'
  have hul : Upd [] w4 (w4.alloc (.cells #[.slice R1 144 c1, .slice R2 112 c2, .slice R3 24 c3, .slice R4 8 c4] 64)) := (Upd.refl [] w4).alloc _
  go_wp2_with fail
  refine (concatI_any _ 4 4 [⟨R1, 144, c1, List.replicate 144 8⟩, ⟨R2, 112, c2, List.replicate 112 9⟩, ⟨R3, 24, c3, List.replicate 24 7⟩, ⟨R4, 8, c4, List.replicate 8 8⟩] _ (seg4 w4 _ _ _ _ _) ?_ (by show 288 ≤ 10000000; omega) (by omega)).mono ?_
  · intro x hx
    simp only [List.mem_cons, List.not_mem_nil, or_false] at hx
    rcases hx with rfl | rfl | rfl | rfl
    · exact hi1.upd hul (by simp)
    · exact hi2.upd hul (by simp)
    · exact hi3.upd hul (by simp)
    · exact hi4.upd hul (by simp)
  rintro e w5 ⟨LA, lc, rfl, hL, hv5⟩
  have hu5 : Upd [] w w5 := (((hu1.trans hu2).trans hu3).trans hu4).trans (hul.trans hv5)
  have eS : sizes [⟨R1, 144, c1, List.replicate 144 8⟩, ⟨R2, 112, c2, List.replicate 112 9⟩, ⟨R3, 24, c3, List.replicate 24 7⟩, ⟨R4, 8, c4, List.replicate 8 8⟩] = 288 := rfl
  have eZ : allZ [⟨R1, 144, c1, List.replicate 144 8⟩, ⟨R2, 112, c2, List.replicate 112 9⟩, ⟨R3, 24, c3, List.replicate 24 7⟩, ⟨R4, 8, c4, List.replicate 8 8⟩] = fixedL := by
    unfold allZ fixedL
    simp only [List.flatMap_cons, List.flatMap_nil, List.append_nil, List.append_assoc]
  rw [eS, eZ] at hL
  rw [eS]
  have HL := Lib.hid (hL.monoB (B' := w.heap.size) (Nat.le_trans (((hu1.trans hu2).trans hu3).trans hu4).size (by simp)))
  clear hL eS eZ hi1 hi2 hi3 hi4 hul hv5
  go_wp2_with fail
  refine (repeatI_any _ 1 5 32 _ (Seg.one w5 _ _) (by omega) (by omega) (by decide)).mono ?_
  rintro e w6 ⟨DA, dc, rfl, hD, hv6⟩
  have hu6 : Upd [] w5 w6 := ((Upd.refl [] w5).alloc _).trans hv6
  go_wp2
  go_ret2
  exact ⟨LA, lc, DA, dc, rfl, HL.out.upd hu6 (by simp), hD.monoB (Nat.le_trans hu5.size (by simp)), hu5.trans hu6⟩

/-- How many lengths there are up to the last one above nought, at least so many. -/
def toldF (L : List Int) (least : Nat) : Nat → Nat
  | 0 => 0
  | n + 1 => if least < n + 1 ∧ L.getD n 0 = 0 then toldF L least n else n + 1
def toldN (L : List Int) (least : Nat) : Nat := toldF L least L.length
theorem toldF_is (L : List Int) (least : Nat) : ∀ n, toldF L least n ≤ n ∧ (least ≤ n → least ≤ toldF L least n) ∧ ∀ i, toldF L least n ≤ i → i < n → L.getD i 0 = 0 := by
  intro n
  induction n with
  | zero => exact ⟨Nat.le_refl _, fun h => by rw [toldF]; omega, fun i _ hi => by omega⟩
  | succ n ih =>
    rw [toldF]
    by_cases h : least < n + 1 ∧ L.getD n 0 = 0
    · rw [if_pos h]
      refine ⟨by omega, fun _ => ih.2.1 (by omega), fun i h1 h2 => ?_⟩
      by_cases hi : i = n
      · rw [hi]; exact h.2
      · exact ih.2.2 i h1 (by omega)
    · rw [if_neg h]
      exact ⟨Nat.le_refl _, fun h => h, fun i h1 h2 => by omega⟩
theorem toldN_is (L : List Int) (least : Nat) : ToldIs L least (toldN L least) := toldF_is L least L.length

set_option maxRecDepth 100000 in
set_option maxHeartbeats 1000000 in
theorem told_any (A : Option Addr) (n c : Nat) (zs : List Int) (least : Nat) (w : World) (hs : Ints .i64 w A n zs) (h1 : 1 ≤ least) (hl : least ≤ 1000) (hn : n ≤ 1000) :
    Calls Tryz.prog 65 #[.slice A n c, .int .i64 least] w fun e w' => e = .returned (.int .i64 (toldN zs least : Nat)) ∧ w = w' := by
  have HS := Lib.hid hs
  have HL := hs.len
  clear hs
  go_enter Tryz.func65, Tryz.ntmps65
  go_wp2
  go_loop [5] (fun v => ∃ k : Nat, k ≤ n ∧ v = .int .i64 k ∧ Hid (toldN zs least = toldF zs least k)) (fun v => (intOf v).toNat)
  case atStart => exact ⟨n, Nat.le_refl _, rfl, by show toldF _ _ _ = _; rw [HL.out]⟩
  case round =>
    obtain ⟨k, hk, rfl, HT⟩ := hrel
    by_cases hlk : least < k
    · obtain ⟨j, rfl⟩ : ∃ j, k = j + 1 := ⟨k - 1, by omega⟩
      have d1 : decide ((least : Int) < ((j + 1 : Nat) : Int)) = true := by simp; omega
      have d1' : decide ((least : Int) < (j : Int) + 1) = true := by simp; omega
      obtain ⟨x, HX, cx⟩ := HS.out.int (i := j) (by omega)
      have ix := HS.out.index el_int c .i64 j (by omega)
      have HXD : Hid (zs.getD j 0 = x) := by show _ = _; rw [List.getD, HX.out]; rfl
      by_cases hx : x = 0
      · subst hx
        go_wp2
        go_round
        case rel => exact ⟨j, by omega, rfl, by show _ = _; rw [HT.out, toldF, if_pos ⟨hlk, HXD.out⟩]⟩
        case measure => simp [intOf]
      · have d2 : (x == 0) = false := by simpa using hx
        have HE : Hid (toldN zs least = j + 1) := by show _ = _; rw [HT.out, toldF, if_neg (by rw [HXD.out]; exact fun h => hx h.2)]
        clear hx
        go_wp2
        go_ret
        exact ⟨ret_int (by rw [HE.out]; rfl), rfl⟩
    · have d1 : decide ((least : Int) < (k : Int)) = false := by simp; omega
      have HE : Hid (toldN zs least = k) := by
        show _ = _
        rw [HT.out]
        cases k with
        | zero => rfl
        | succ k => rw [toldF, if_neg (by omega)]
      go_wp2
      go_ret
      exact ⟨ret_int (by rw [HE.out]), rfl⟩

end Go.Proofs.YtolcdlopgbgilaaGreatDoor
