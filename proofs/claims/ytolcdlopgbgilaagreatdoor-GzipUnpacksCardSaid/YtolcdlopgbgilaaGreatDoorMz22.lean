/- Merged by wip/tools/merge.py: DefK DefL. -/
import Derived.Deep.MidRow
import Derived.Test.YtolcdlopgbgilaaGreatDoorMz21

/-! Text DefK. -/
namespace Go.Proofs.YtolcdlopgbgilaaGreatDoor
open Go.RowKit Go.Dray

/-- A writer that has come from the world w to wr. -/
structure WAt (w wr : World) (B gw : Nat) (WA WB : Option Addr) (bits : List Bool) : Prop where
  wri : Wr wr B gw WB bits
  upd : Upd [some gw, ob WA] w wr
  fresh : Fresh w WA WB
  bw : B ≤ w.heap.size
/-- A slice that is apart from the writer. -/
def Apart (gw : Nat) (WA : Option Addr) (A : Option Addr) (n : Nat) : Prop := 0 < n → bl A ≠ gw ∧ some (bl A) ≠ ob WA

theorem Wr.lt {w : World} {B g : Nat} {A : Option Addr} {bs : List Bool} (h : Wr w B g A bs) : g < w.heap.size := by
  obtain ⟨n, c, hb, _⟩ := h
  exact hb.lt
section
variable {w wr w2 : World} {B gw : Nat} {WA WB WC : Option Addr} {bits bits2 : List Bool}
theorem WAt.start (h : Wr w B gw WA bits) (hB : B ≤ w.heap.size) : WAt w w B gw WA WA bits := ⟨h, Upd.refl _ _, fun _ hg => Or.inl hg, hB⟩
theorem WAt.next (h : WAt w wr B gw WA WB bits) (hw : Wr w2 B gw WC bits2) (hv : Upd [some gw, ob WB] wr w2) (hf : Fresh wr WB WC) : WAt w w2 B gw WA WC bits2 := by
  refine ⟨hw, h.upd.then hv fun b hb => ?_, fun g hg => ?_, h.bw⟩
  · simp at hb
    rcases hb with rfl | hb
    · left; simp
    · rcases h.fresh b hb.symm with h1 | h1
      · left; simp [h1]
      · exact Or.inr h1
  · rcases hf g hg with h1 | h1
    · exact h.fresh g h1
    · right; have := h.upd.size; omega
theorem WAt.calm (h : WAt w wr B gw WA WB bits) (hu : Upd [] wr w2) : WAt w w2 B gw WA WB bits := ⟨h.wri.upd hu (by simp) (by simp), h.upd.trans (hu.mono (by simp)), h.fresh, h.bw⟩
theorem WAt.ints (h : WAt w wr B gw WA WB bits) {kd : IntKind} {A : Option Addr} {n : Nat} {zs : List Int} (hi : Ints kd w A n zs) (ha : Apart gw WA A n) : Ints kd wr A n zs := hi.upd h.upd fun hp => by simp; exact ha hp
theorem WAt.seg (h : WAt w wr B gw WA WB bits) {sz : Nat} (hsz : 0 < sz) {A : Option Addr} {n : Nat} {xs : List Value} (hi : Seg w sz A n xs) (ha : Apart gw WA A n) : Seg wr sz A n xs := hi.upd h.upd hsz fun hp => by simp; exact ha hp
theorem WAt.blk (h : WAt w wr B gw WA WB bits) {g : Nat} {t : TypeId} {cs : Array Value} (hb : Blk wr g t cs) (hv : Upd [some gw, ob WB] wr w2) (h1 : t ≠ 5) (h2 : t ≠ 98) : Blk w2 g t cs := Blk.updWr hb h.wri hv h1 h2
end

/-- What is written by one step. -/
def StepWr (w wr : World) (B gw : Nat) (WA WB : Option Addr) (bits : List Bool) (e : Ending) (w' : World) : Prop := e = .returned (.tuple #[]) ∧ ∃ WC, WAt w w' B gw WA WC bits ∧ Upd [some gw, ob WB] wr w'

theorem code_at {w wr : World} {B gw : Nat} {WA WB : Option Addr} {bits : List Bool} (h : WAt w wr B gw WA WB bits) (hl : bits.length ≤ 100000000) {zs : List Int} {s : Nat} {cv lv : Int} (hcv : cv = codeOf zs s) (hlv : zs.getD s 0 = lv) (h0 : 0 ≤ lv) (h15 : lv ≤ 15) :
    Calls Tryz.prog 59 #[.pointer (some ⟨gw, 0, none⟩), .int .i64 cv, .int .i64 lv] wr (StepWr w wr B gw WA WB (bits ++ rowOf zs s)) := by
  refine (code_any wr B gw WB bits cv lv h0 h15 (by omega) (by have := h.bw; have := h.upd.size; omega) h.wri).mono ?_
  rintro e w' ⟨rfl, WC, hw, hv, hf⟩
  refine ⟨rfl, WC, ?_, hv⟩
  have := h.next hw hv hf
  rw [hcv, ← hlv] at this
  exact this
theorem put_at {w wr : World} {B gw : Nat} {WA WB : Option Addr} {bits : List Bool} (h : WAt w wr B gw WA WB bits) (hl : bits.length ≤ 100000000) (v m : Int) (h0 : 0 ≤ m) (h24 : m ≤ 24) :
    Calls Tryz.prog 26 #[.pointer (some ⟨gw, 0, none⟩), .int .i64 v, .int .i64 m] wr (StepWr w wr B gw WA WB (bits ++ digits v m.toNat)) := by
  refine (put_any wr B gw WB bits v m h0 h24 (by omega) (by have := h.bw; have := h.upd.size; omega) h.wri).mono ?_
  rintro e w' ⟨rfl, WC, hw, hv, hf⟩
  exact ⟨rfl, WC, h.next hw hv hf, hv⟩

theorem pieceBits_len {lz dz : List Int} {x : Piece} (hb : ∀ z ∈ lz, 0 ≤ z ∧ z ≤ 15) (hd : ∀ z ∈ dz, 0 ≤ z ∧ z ≤ 15) (hx : (x.2 = 0 ∧ 0 ≤ x.1 ∧ x.1 ≤ 255) ∨ (3 ≤ x.1 ∧ x.1 ≤ 258 ∧ 1 ≤ x.2 ∧ x.2 ≤ 32768)) : (pieceBits lz dz x).length ≤ 60 := by
  have hr : ∀ (zs : List Int) (t : Nat), (∀ z ∈ zs, 0 ≤ z ∧ z ≤ 15) → (rowOf zs t).length ≤ 15 := fun zs t h => by
    rw [rowOf_len]
    by_cases ht : t < zs.length
    · rw [List.getD, List.getElem?_eq_getElem ht]
      have := h zs[t] (List.getElem_mem ht)
      show (zs[t]).toNat ≤ 15
      omega
    · rw [List.getD, List.getElem?_eq_none (by omega)]; simp
  unfold pieceBits
  rcases hx with ⟨h0, _⟩ | ⟨h1, h2, h3, h4⟩
  · rw [if_pos h0]
    have := hr lz x.1.toNat hb
    omega
  · rw [if_neg (by omega)]
    have a := hr lz (lsym x.1).1.toNat hb
    have b := hr dz (dsym x.2).1.toNat hd
    have c := lsym_bd h1 h2
    have d := (dsym_ok h3 h4).n13
    simp only [List.length_append, digits_len]
    omega
theorem piecesBits_len {lz dz : List Int} (hb : ∀ z ∈ lz, 0 ≤ z ∧ z ≤ 15) (hd : ∀ z ∈ dz, 0 ≤ z ∧ z ≤ 15) (ps : List Piece) (hx : ∀ x ∈ ps, (x.2 = 0 ∧ 0 ≤ x.1 ∧ x.1 ≤ 255) ∨ (3 ≤ x.1 ∧ x.1 ≤ 258 ∧ 1 ≤ x.2 ∧ x.2 ≤ 32768)) : (piecesBits lz dz ps).length ≤ 60 * ps.length := by
  induction ps with
  | nil => simp [piecesBits]
  | cons x ps ih =>
    have e : piecesBits lz dz (x :: ps) = pieceBits lz dz x ++ piecesBits lz dz ps := by simp [piecesBits]
    have h1 := pieceBits_len hb hd (hx x (by simp))
    have h2 := ih fun y hy => hx y (by simp [hy])
    rw [e, List.length_append, List.length_cons]
    omega

/-- The codes that Codes hands back read as the rows, and are apart from a writer. -/
theorem codes_apart {w w' : World} {B gw : Nat} {WA : Option Addr} {bits : List Bool} (hw : Wr w B gw WA bits) {C : Option Addr} {n cc : Nat} {xs : List Value} (hown : Own w' w.heap.size 3 1 C n cc xs) : Apart gw WA C n := fun hp => by
  have h1 := hown.obl hp
  have h2 := (hown.base h1).1
  have h3 := hw.lt
  refine ⟨by omega, fun e => ?_⟩
  have := (hw.base e.symm).2
  omega

def WritePost (w : World) (B gw : Nat) (WA : Option Addr) (bits : List Bool) (e : Ending) (w' : World) : Prop := e = .returned (.tuple #[]) ∧ ∃ WB, WAt w w' B gw WA WB bits

set_option maxRecDepth 100000 in
set_option maxHeartbeats 8000000 in
theorem write_any (w : World) (B gw : Nat) (WA : Option Addr) (bits : List Bool) (PA LA DA : Option Addr) (pc ln lc dn dc : Nat) (ps : List Piece) (lz dz : List Int)
    (hw : Wr w B gw WA bits) (hB : B ≤ w.heap.size) (hbl : bits.length ≤ 1000000)
    (hp : Seg w 2 PA ps.length (pcells ps)) (hl : Ints .i64 w LA ln lz) (hd : Ints .i64 w DA dn dz) (ap : Apart gw WA PA ps.length) (al : Apart gw WA LA ln) (ad : Apart gw WA DA dn)
    (hok : PiecesOk ps []) (hpl : ps.length ≤ 3000) (hcl : chk lz = 0) (hcd : chk dz = 0) (hh : ∀ x ∈ ps, PieceHas lz dz x) (h256 : Has lz 256) :
    Calls Tryz.prog 28 #[.pointer (some ⟨gw, 0, none⟩), .slice PA ps.length pc, .slice LA ln lc, .slice DA dn dc] w (WritePost w B gw WA (bits ++ blockBits lz dz ps)) := by
  have HW := Lib.hid hw
  have HP := Lib.hid hp
  have HL := Lib.hid hl
  have HD := Lib.hid hd
  have AP := Lib.hid ap
  have AL := Lib.hid al
  have AD := Lib.hid ad
  have HOK := Lib.hid hok
  have HCL := Lib.hid hcl
  have HCD := Lib.hid hcd
  have HH := Lib.hid hh
  have H256 := Lib.hid h256
  have hLn := hl.len
  have hDn := hd.len
  have hl320 : ln ≤ 320 := by rw [← hLn.out]; exact (chk_zero hcl).1
  have hd320 : dn ≤ 320 := by rw [← hDn.out]; exact (chk_zero hcd).1
  have h256n : 256 < ln := by rw [← hLn.out]; exact h256.1
  obtain ⟨N, hN⟩ : ∃ N, N = ps.length := ⟨_, rfl⟩
  have HN := Lib.hid hN
  rw [← hN] at hpl ⊢
  clear hw hp hl hd ap al ad hok hcl hcd hh h256 hN
  go_enter Tryz.func28, Tryz.ntmps28
  go_wp2_with fail
  refine (codes_ok LA ln lc lz w HL.out HCL.out).mono ?_
  rintro e w1 ⟨C, cc, rfl, hC, hu1⟩
  have AC := Lib.hid (codes_apart HW.out hC)
  have HW1 := Lib.hid (HW.out.upd hu1 (by simp) (by simp))
  have HD1 := Lib.hid (HD.out.upd hu1 (by simp))
  have HC1 := Lib.hid hC
  have HU1 := Lib.hid hu1
  clear hC hu1
  go_wp2_with fail
  refine (codes_ok DA dn dc dz w1 HD1.out HCD.out).mono ?_
  rintro e w2 ⟨E, ec, rfl, hE, hu2⟩
  have AE := Lib.hid (codes_apart HW1.out hE)
  have HU2 : Hid (Upd [] w w2) := HU1.out.trans hu2
  have HW2 : Hid (WAt w2 w2 B gw WA WA bits) := WAt.start (HW1.out.upd hu2 (by simp) (by simp)) (by have := HU2.out.size; omega)
  have HC2 : Hid (Ints .i64 w2 C ln (tab lz.length (codeOf lz))) := (Ints.ofOwn HC1.out).upd hu2 (by simp)
  have HE2 : Hid (Ints .i64 w2 E dn (tab dz.length (codeOf dz))) := Ints.ofOwn hE
  have HL2 := Lib.hid (HL.out.upd HU2.out (by simp))
  have HD2 := Lib.hid (HD.out.upd HU2.out (by simp))
  have HP2 := Lib.hid (HP.out.upd HU2.out (by omega) (by simp))
  clear hE hu2 HC1 HD1 HW1 HU1 HL HD HP HW
  go_wp2
  go_loopw [30] (fun v wr => ∃ (k : Nat) (WB : Option Addr), k ≤ N ∧ v = .int .i64 k ∧ Hid (WAt w2 wr B gw WA WB (bits ++ piecesBits lz dz (ps.take k)))) (fun v _ => N - (intOf v).toNat)
  case atStart => exact ⟨0, WA, by omega, rfl, by simp only [List.take_zero, piecesBits, List.flatMap_nil, List.append_nil]; exact HW2⟩
  case round =>
    clear HW2
    obtain ⟨k, WB, hk, rfl, HT⟩ := hrel
    have HLB : Hid ((bits ++ piecesBits lz dz (ps.take k)).length ≤ 2000000) := by
      have h1 := piecesBits_len (chk_zero HCL.out).2.1 (chk_zero HCD.out).2.1 (ps.take k) fun x hx => PiecesOk.mem HOK.out x (List.mem_of_mem_take hx)
      rw [List.length_take] at h1
      show _ ≤ _
      rw [List.length_append]
      have := HN.out
      omega
    by_cases hlt : k < N
    · have hkp : k < ps.length := by rw [← HN.out]; exact hlt
      obtain ⟨x, hx⟩ : ∃ x, ps[k]? = some x := ⟨_, List.getElem?_eq_getElem hkp⟩
      obtain ⟨hc1, hc2⟩ := pcells_get hx
      have hsw := HT.out.seg (by omega) HP2.out AP.out
      have p0 := hsw.cell _ _ hc1
      have p1 := hsw.cell _ _ hc2
      rw [← Nat.add_assoc] at p1
      have ix := hsw.index el_piece pc .i64 k hkp
      rw [← HN.out] at ix
      have hmem := PiecesOk.mem HOK.out x (List.mem_of_getElem? hx)
      have hhx := HH.out x (List.mem_of_getElem? hx)
      have HBK : Hid (piecesBits lz dz (ps.take (k + 1)) = piecesBits lz dz (ps.take k) ++ pieceBits lz dz x) := by show _ = _; rw [takeP_snoc hx, piecesBits_snoc]
      obtain ⟨X, hX⟩ : ∃ X, X = bits ++ piecesBits lz dz (ps.take k) := ⟨_, rfl⟩
      rw [← hX] at HT HLB
      have HX := Lib.hid hX
      have hxl : X.length ≤ 2000000 := HLB.out
      obtain ⟨x1, x2⟩ := x
      simp only at p0 p1 hmem
      clear hsw hc1 hc2 hkp hx hX HLB
      go_upto_region 5 with (fail)
      obtain ⟨w3, hw3⟩ : ∃ w3 : World, w3 = wr.alloc (.cells #[.int .i32 x1, .int .i32 x2] 106) := ⟨_, rfl⟩
      obtain ⟨g7, hg7⟩ : ∃ g7, g7 = wr.heap.size := ⟨_, rfl⟩
      rw [← hw3, ← hg7]
      have hu3 : Upd [] wr w3 := by rw [hw3]; exact (Upd.refl _ _).alloc _
      have HK3 : Hid (Blk w3 g7 106 #[.int .i32 x1, .int .i32 x2]) := by rw [hw3, hg7]; exact Blk.new _ _ _
      have HT3 := Lib.hid (HT.out.calm hu3)
      clear hu3 hw3 hg7 p0 p1 ix HT
      have e0 := HK3.out.cell 0
      have e1 := HK3.out.cell 1
      simp at e0 e1
      rcases hmem with ⟨rfl, h1, h2⟩ | ⟨h1, h2, h3, h4⟩
      · obtain ⟨s, rfl⟩ := Int.eq_ofNat_of_zero_le h1
        unfold PieceHas at hhx
        rw [if_pos rfl] at hhx
        simp only [Int.toNat_natCast] at hhx
        have HBIT : Hid (pieceBits lz dz ((s : Int), 0) = rowOf lz s) := by show _ = _; unfold pieceBits; rw [if_pos rfl, Int.toNat_natCast]
        have hs : s < ln := by rw [← hLn.out]; exact hhx.1
        obtain ⟨lv, HLV, cl⟩ := (HT3.out.ints HL2.out AL.out).int hs
        obtain ⟨cv, HCV, cc3⟩ := (HT3.out.ints HC2.out AC.out).int hs
        have hlvb := (chk_zero HCL.out).2.1 lv (List.mem_of_getElem? HLV.out)
        have HLD : Hid (lz.getD s 0 = lv) := getD_of HLV.out
        have HCE : Hid (cv = codeOf lz s) := by
          have := HCV.out
          rw [tab_get _ (by rw [hLn.out]; exact hs)] at this
          injection this with this
          exact this.symm
        have il := HL2.out.index el_int lc .i32 s hs
        have ic := HC2.out.index el_int cc .i32 s hs
        have d0 : ((0 : Int) == 0) = true := rfl
        clear HLV HCV h1 h2 hhx
        go_wp2
        go_still_tail 11, (by kernel_rfl)
        change wpList _ _ _ _ _ w3.drew
        have HT4 : Hid (WAt w2 w3.drew B gw WA WB X) := HT3.out.calm ((Upd.refl _ _).drew)
        have cl' : w3.drew.cell? ⟨bl LA, ofs LA + s, none⟩ = some (.int .i64 lv) := cl
        have cc4 : w3.drew.cell? ⟨bl C, ofs C + s, none⟩ = some (.int .i64 cv) := cc3
        have e0' : w3.drew.cell? ⟨g7, 0, none⟩ = some (.int .i32 s) := e0
        generalize w3.drew = w4 at HT4 cl' cc4 e0' ⊢
        clear HT3 HK3 cl cc3 e0 e1
        go_wp2_with fail
        refine (code_at HT4.out (by omega) HCE.out HLD.out hlvb.1 hlvb.2).mono ?_
        rintro e w5 ⟨rfl, WC, hT5, -⟩
        have HT5 : Hid (WAt w2 w5 B gw WA WC (bits ++ piecesBits lz dz (ps.take (k + 1)))) := by show WAt _ _ _ _ _ _ _; rw [HBK.out, HBIT.out, ← List.append_assoc, ← HX.out]; exact hT5
        clear hT5 HT4 cl' cc4 e0'
        go_wp2
        go_roundw
        case rel => exact ⟨k + 1, WC, by omega, by go_num, HT5⟩
        case measure => simp [intOf]; omega
      · obtain ⟨size, rfl⟩ := Int.eq_ofNat_of_zero_le (show 0 ≤ x1 by omega)
        obtain ⟨back, rfl⟩ := Int.eq_ofNat_of_zero_le (show 0 ≤ x2 by omega)
        have d0 : ((back : Int) == 0) = false := by simp; omega
        have hlb := lsym_bd (size := (size : Int)) h1 h2
        have hdb := dsym_ok (back := (back : Int)) h3 h4
        unfold PieceHas at hhx
        rw [if_neg (show ¬ (((size : Int), (back : Int)) : Piece).2 = 0 by simp only; omega)] at hhx
        simp only at hhx
        have HBIT : Hid (pieceBits lz dz ((size : Int), (back : Int)) = rowOf lz (lsym size).1.toNat ++ (digits (lsym size).2.1 (lsym size).2.2 ++ (rowOf dz (dsym back).1.toNat ++ digits (dsym back).2.1 (dsym back).2.2))) := by show _ = _; unfold pieceBits; rw [if_neg (by simp only; omega)]
        obtain ⟨s, hs⟩ : ∃ s : Nat, (s : Int) = (lsym size).1 := ⟨(lsym size).1.toNat, by omega⟩
        obtain ⟨t, ht⟩ : ∃ t : Nat, (t : Int) = (dsym back).1 := ⟨(dsym back).1.toNat, by have := hdb.lo; omega⟩
        have hn5 := hlb.2.2.2.2
        have hn13 := hdb.n13
        have HLS : Hid (∀ W : World, Calls Tryz.prog 60 #[.int .i64 size] W (fun e w' => e = .returned (.tuple #[.int .i64 s, .int .i64 (lsym size).2.1, .int .i64 ((lsym size).2.2 : Nat)]) ∧ ∃ m, w' = W.drewN m)) := fun W => by
          rw [hs]
          exact lengthSymbol_any size (by omega) (by omega) W
        have HDS : Hid (∀ W : World, Calls Tryz.prog 61 #[.int .i64 back] W (fun e w' => e = .returned (.tuple #[.int .i64 t, .int .i64 (dsym back).2.1, .int .i64 ((dsym back).2.2 : Nat)]) ∧ ∃ m, w' = W.drewN m)) := fun W => by
          rw [ht]
          exact distanceSymbol_any back (by omega) (by omega) W
        rw [← hs, ← ht] at hhx HBIT
        simp only [Int.toNat_natCast] at hhx HBIT
        generalize (lsym size).2.1 = lm at HLS HBIT
        generalize (lsym size).2.2 = ly at HLS HBIT hn5
        generalize (dsym back).2.1 = dm at HDS HBIT
        generalize (dsym back).2.2 = dy at HDS HBIT hn13
        have hs2 : s < ln := by rw [← hLn.out]; exact hhx.1.1
        have ht2 : t < dn := by rw [← hDn.out]; exact hhx.2.1
        have hsz2 : size ≤ 258 := by omega
        have hbk2 : back ≤ 32768 := by omega
        clear h1 h2 h3 h4 hlb hdb hs ht hhx
        obtain ⟨lv, HLV, -⟩ := HL2.out.int hs2
        obtain ⟨cv, HCV, -⟩ := HC2.out.int hs2
        obtain ⟨mv, HMV, -⟩ := HD2.out.int ht2
        obtain ⟨ev, HEV, -⟩ := HE2.out.int ht2
        have hlvb := (chk_zero HCL.out).2.1 lv (List.mem_of_getElem? HLV.out)
        have hmvb := (chk_zero HCD.out).2.1 mv (List.mem_of_getElem? HMV.out)
        have HLD : Hid (lz.getD s 0 = lv) := getD_of HLV.out
        have HMD : Hid (dz.getD t 0 = mv) := getD_of HMV.out
        have HCE : Hid (cv = codeOf lz s) := by
          have := HCV.out
          rw [tab_get _ (by rw [hLn.out]; exact hs2)] at this
          injection this with this
          exact this.symm
        have HEE : Hid (ev = codeOf dz t) := by
          have := HEV.out
          rw [tab_get _ (by rw [hDn.out]; exact ht2)] at this
          injection this with this
          exact this.symm
        have il := HL2.out.index el_int lc .i64 s hs2
        have ic := HC2.out.index el_int cc .i64 s hs2
        have im := HD2.out.index el_int dc .i64 t ht2
        have ie := HE2.out.index el_int ec .i64 t ht2
        go_wp2_with fail
        refine (HLS.out _).mono ?_
        rintro e w4 ⟨rfl, m4, rfl⟩
        have HT4 : Hid (WAt w2 (w3.drewN m4) B gw WA WB X) := HT3.out.calm ((Upd.refl _ _).drewN _)
        have HK4 : Hid (Blk (w3.drewN m4) g7 106 #[.int .i32 size, .int .i32 back]) := HK3.out
        generalize w3.drewN m4 = w4 at HT4 HK4 ⊢
        clear HT3 HK3 e0 e1 HLS
        have cl := (HT4.out.ints HL2.out AL.out).cell HLV.out
        have ck := (HT4.out.ints HC2.out AC.out).cell HCV.out
        go_wp2
        go_still_tail 9, (by kernel_rfl)
        change wpList _ _ _ _ _ w4.drew
        have HT5 : Hid (WAt w2 w4.drew B gw WA WB X) := HT4.out.calm ((Upd.refl _ _).drew)
        have HK5 : Hid (Blk w4.drew g7 106 #[.int .i32 size, .int .i32 back]) := HK4.out
        have cl' : w4.drew.cell? ⟨bl LA, ofs LA + s, none⟩ = some (.int .i64 lv) := cl
        have ck' : w4.drew.cell? ⟨bl C, ofs C + s, none⟩ = some (.int .i64 cv) := ck
        generalize w4.drew = w5 at HT5 HK5 cl' ck' ⊢
        clear HT4 HK4 cl ck
        go_wp2_with fail
        refine (code_at HT5.out (by omega) HCE.out HLD.out hlvb.1 hlvb.2).mono ?_
        rintro e w6 ⟨rfl, WC, hT6, hv6⟩
        have HK6 := Lib.hid (HT5.out.blk HK5.out hv6 (by decide) (by decide))
        have HT6 := Lib.hid hT6
        have hrl : (rowOf lz s).length ≤ 15 := by rw [rowOf_len, HLD.out]; omega
        clear hT6 hv6 HT5 HK5 cl' ck'
        go_wp2_with fail
        refine (put_at HT6.out (by rw [List.length_append]; omega) lm ly (by omega) (by omega)).mono ?_
        rintro e w7 ⟨rfl, WD, hT7, hv7⟩
        have HK7 := Lib.hid (HT6.out.blk HK6.out hv7 (by decide) (by decide))
        have HT7 := Lib.hid hT7
        have e1 := HK7.out.cell 1
        simp at e1
        clear hT7 hv7 HT6 HK6
        go_wp2_with fail
        refine (HDS.out _).mono ?_
        rintro e w8 ⟨rfl, m8, rfl⟩
        have HT8 : Hid (WAt w2 (w7.drewN m8) B gw WA WD (X ++ rowOf lz s ++ digits lm (ly : Int).toNat)) := HT7.out.calm ((Upd.refl _ _).drewN _)
        generalize w7.drewN m8 = w8 at HT8 ⊢
        clear HT7 HK7 e1 HDS
        have cl := (HT8.out.ints HD2.out AD.out).cell HMV.out
        have ck := (HT8.out.ints HE2.out AE.out).cell HEV.out
        go_wp2
        go_still_tail 9, (by kernel_rfl)
        change wpList _ _ _ _ _ w8.drew
        have HT9 : Hid (WAt w2 w8.drew B gw WA WD (X ++ rowOf lz s ++ digits lm (ly : Int).toNat)) := HT8.out.calm ((Upd.refl _ _).drew)
        have cl' : w8.drew.cell? ⟨bl DA, ofs DA + t, none⟩ = some (.int .i64 mv) := cl
        have ck' : w8.drew.cell? ⟨bl E, ofs E + t, none⟩ = some (.int .i64 ev) := ck
        generalize w8.drew = w9 at HT9 cl' ck' ⊢
        clear HT8 cl ck
        go_wp2_with fail
        refine (code_at HT9.out (by simp only [List.length_append, digits_len, Int.toNat_natCast]; omega) HEE.out HMD.out hmvb.1 hmvb.2).mono ?_
        rintro e w10 ⟨rfl, WE, hT10, -⟩
        have HT10 := Lib.hid hT10
        have hrd : (rowOf dz t).length ≤ 15 := by rw [rowOf_len, HMD.out]; omega
        clear hT10 HT9 cl' ck'
        go_wp2_with fail
        refine (put_at HT10.out (by simp only [List.length_append, digits_len, Int.toNat_natCast]; omega) dm dy (by omega) (by omega)).mono ?_
        rintro e w11 ⟨rfl, WF, hT11, -⟩
        have HT11 : Hid (WAt w2 w11 B gw WA WF (bits ++ piecesBits lz dz (ps.take (k + 1)))) := by
          show WAt _ _ _ _ _ _ _
          rw [HBK.out, HBIT.out]
          simp only [Int.toNat_natCast, HX.out, List.append_assoc] at hT11
          exact hT11
        clear hT11 HT10
        go_wp2
        go_roundw
        case rel => exact ⟨k + 1, WF, by omega, by go_num, HT11⟩
        case measure => simp [intOf]; omega
    · obtain rfl : k = N := by omega
      obtain ⟨lv, HLV, cl⟩ := (HT.out.ints HL2.out AL.out).int h256n
      obtain ⟨cv, HCV, ck⟩ := (HT.out.ints HC2.out AC.out).int h256n
      have hlvb := (chk_zero HCL.out).2.1 lv (List.mem_of_getElem? HLV.out)
      have HLD : Hid (lz.getD 256 0 = lv) := getD_of HLV.out
      have HCE : Hid (cv = codeOf lz 256) := by
        have := HCV.out
        rw [tab_get _ (by rw [hLn.out]; exact h256n)] at this
        injection this with this
        exact this.symm
      have il : ∀ W : World, (Instr.indexAt 64 (.slice LA ln lc) (.int .i64 256)).run Tryz.prog W = .ok (.pointer (some ⟨bl LA, ofs LA + 256, none⟩)) W := HL2.out.index el_int lc .i64 256 h256n
      have ic : ∀ W : World, (Instr.indexAt 64 (.slice C ln cc) (.int .i64 256)).run Tryz.prog W = .ok (.pointer (some ⟨bl C, ofs C + 256, none⟩)) W := HC2.out.index el_int cc .i64 256 h256n
      have hxl := HLB.out
      clear HLV HCV HLB
      go_wp2
      go_still_tail 7, (by kernel_rfl)
      change wpList _ _ _ _ _ wr.drew
      have HT4 : Hid (WAt w2 wr.drew B gw WA WB (bits ++ piecesBits lz dz (ps.take k))) := HT.out.calm ((Upd.refl _ _).drew)
      have cl' : wr.drew.cell? ⟨bl LA, ofs LA + 256, none⟩ = some (.int .i64 lv) := cl
      have ck' : wr.drew.cell? ⟨bl C, ofs C + 256, none⟩ = some (.int .i64 cv) := ck
      generalize wr.drew = w4 at HT4 cl' ck' ⊢
      clear HT cl ck
      go_wp2_with fail
      refine (code_at HT4.out (by omega) HCE.out HLD.out hlvb.1 hlvb.2).mono ?_
      rintro e w5 ⟨rfl, WC, hT5, -⟩
      have HT5 : Hid (WAt w2 w5 B gw WA WC (bits ++ blockBits lz dz ps)) := by
        show WAt _ _ _ _ _ _ _
        unfold blockBits
        rw [List.take_of_length_le (by rw [← HN.out]; exact Nat.le_refl _), List.append_assoc] at hT5
        exact hT5
      clear hT5 HT4 cl' ck'
      go_wp2
      go_end0
      exact ⟨rfl, WC, ⟨HT5.out.wri, HU2.out.mono (by simp) |>.trans HT5.out.upd, fun b hb => by rcases HT5.out.fresh b hb with h | h; exact Or.inl h; right; have := HU2.out.size; omega, hB⟩⟩

end Go.Proofs.YtolcdlopgbgilaaGreatDoor

/-! Text DefL. -/
namespace Go.Proofs.YtolcdlopgbgilaaGreatDoor
open Go.RowKit Go.Dray

/-- deflate's order, as the program's text lays it. -/
def OrdD (w : World) : Prop := ∀ i, i < 19 → w.cell? ⟨0, i, none⟩ = some (.int .i64 (orderL.getD i 0 : Nat))
theorem OrdD.low {w : World} (h : OrdD w) : 0 < w.heap.size := cell_lt (h 0 (by omega))
theorem OrdD.upd {w w' : World} {L : List (Option Nat)} (h : OrdD w) (hu : Upd L w w') (hn : some 0 ∉ L) : OrdD w' := fun i hi => hu.cell (h i hi) hn
def ordC : List Value := orderL.map fun n : Nat => Value.int .i64 n
theorem ordC_get {i : Nat} (h : i < 19) : ordC[i]? = some (.int .i64 (orderL.getD i 0 : Nat)) := by
  unfold ordC
  rw [List.getElem?_map, List.getElem?_eq_getElem (show i < orderL.length from h)]
  simp [List.getD, show i < orderL.length from h]
theorem wpList_order {ops : Array Oper} {rest : List Oper} {op : Oper} {a : Act} {w : World} {Q : Exit → Act → World → Prop} (hgd : op.guard = none) (ho : op.op = .load 116 (.global 0)) (h : OrdD w)
    (hK : wpList Tryz.prog ops Q rest (a.put op.dst (.agg ordC.toArray)) w) : wpList Tryz.prog ops Q (op :: rest) a w :=
  wpList_load_mid hgd 116 (.global 0) ho 0 0 rfl ordC _ (fun j v hv => by
    have hj : j < 19 := by have := (List.getElem?_eq_some_iff.1 hv).1; exact this
    rw [ordC_get hj] at hv
    injection hv with hv
    rw [Nat.zero_add, ← hv]
    exact h j hj) Tryz.underlying116 rfl (by kernel_rfl) hK
theorem index_ordC (i : Nat) (h : i < 19) (W : World) : (Instr.index 116 (.agg ordC.toArray) (.int .i64 i)).run Tryz.prog W = .ok (.int .i64 (orderL.getD i 0 : Nat)) W := by
  obtain ⟨f, hf, hz, hs, hb⟩ := info_get el_int
  have hc : ordC.toArray[i]? = some (.int .i64 (orderL.getD i 0 : Nat)) := by rw [List.getElem?_toArray]; exact ordC_get h
  have hp : (Go.part 3 ordC.toArray i).run Tryz.prog W = .ok (.int .i64 (orderL.getD i 0 : Nat)) W := by
    simp only [Go.part, isAgg, Sem.run_bind, run_underlying Tryz.underlying3, Result.andThen_ok, Sem.run_pure, hc]
    rfl
  have hsz : (sizeOf 3).run Tryz.prog W = .ok 1 W := by simp [sizeOf, typeInfo, hf, hs]
  unfold Instr.index
  simp only [asIntOf, Sem.run_bind, Sem.run_pure, Result.andThen_ok, run_underlying Tryz.underlying116]
  rw [if_pos (by omega)]
  simp only [Sem.run_bind, hsz, Result.andThen_ok, Int.toNat_natCast, Nat.mul_one, hp]
/-- The counts of the third code's symbols behind the first k steps. -/
def cntK (ss : List Step) (k : Nat) : List Int := tab 19 fun s => countS (ss.take k) s
theorem cntK_len (ss : List Step) (k : Nat) : (cntK ss k).length = 19 := tab_len _ _
theorem takeS_snoc {ss : List Step} {k : Nat} {x : Step} (h : ss[k]? = some x) : ss.take (k + 1) = ss.take k ++ [x] := by
  obtain ⟨h1, h2⟩ := List.getElem?_eq_some_iff.1 h
  rw [List.take_succ_eq_append_getElem h1, h2]
theorem cntK_bd (ss : List Step) (k : Nat) : ∀ z ∈ cntK ss k, 0 ≤ z ∧ z ≤ ss.length := by
  intro z hz
  obtain ⟨s, hs, rfl⟩ := getD_ex hz
  rw [cntK_len] at hs
  have e : (cntK ss k).getD s 0 = countS (ss.take k) s := getD_tab _ hs
  rw [e]
  unfold countS
  have := List.countP_le_length (l := ss.take k) (p := fun x => decide (x.1 = (s : Int)))
  rw [List.length_take] at this
  omega
theorem cntK_zero (ss : List Step) : cntK ss 0 = List.replicate 19 (0 : Int) := by
  unfold cntK
  rw [tab_rep]
  exact tab_congr fun j hj => by simp [countS]
theorem cntK_step {ss : List Step} {k : Nat} {x : Step} (h : ss[k]? = some x) {v : Int} {s : Nat} (hs : x.1 = (s : Int)) (hv : (cntK ss k)[s]? = some v) : (cntK ss k).set s (v + 1) = cntK ss (k + 1) := by
  have hl : s < 19 := by have := (List.getElem?_eq_some_iff.1 hv).1; rw [cntK_len] at this; exact this
  have e : v = countS (ss.take k) s := by
    unfold cntK at hv
    rw [tab_get _ hl] at hv
    injection hv with hv
    exact hv.symm
  unfold cntK
  rw [tab_set]
  refine tab_congr fun j hj => ?_
  rw [takeS_snoc h, countS_snoc, hs]
  by_cases hjs : j = s
  · subst hjs
    rw [if_pos rfl, if_pos rfl, e]
  · rw [if_neg hjs, if_neg (by omega)]
    omega

/-- The lengths in their order, the first k of them. -/
def ordK (L : List Int) (k : Nat) : List Int := tab 19 fun i => if i < k then L.getD (orderL.getD i 0) 0 else 0
theorem ordK_len (L : List Int) (k : Nat) : (ordK L k).length = 19 := tab_len _ _
theorem ordK_zero (L : List Int) : ordK L 0 = List.replicate 19 (0 : Int) := by
  unfold ordK
  rw [tab_rep]
  exact tab_congr fun j hj => by rw [if_neg (by omega)]
theorem ordK_step (L : List Int) {k : Nat} {v : Int} (hk : k < 19) (hv : L.getD (orderL.getD k 0) 0 = v) : (ordK L k).set k v = ordK L (k + 1) := by
  unfold ordK
  rw [tab_set]
  refine tab_congr fun j hj => ?_
  by_cases hjk : j = k
  · subst hjk; rw [if_pos rfl, if_pos (by omega), hv]
  · rw [if_neg hjk]
    by_cases h : j < k
    · rw [if_pos h, if_pos (by omega)]
    · rw [if_neg h, if_neg (by omega)]
theorem ordK_all (L : List Int) : ordK L 19 = orderedOf L := by
  have h := tab_of (orderedOf L) 0
  rw [orderedOf_len] at h
  rw [h]
  unfold ordK
  exact tab_congr fun j hj => by rw [if_pos hj, orderedOf_get L hj]

/-- What is told is right. -/
theorem tellOk_mk {lz dz : List Int} {ss : List Step} {L : List Int} (l1 : 257 ≤ lz.length) (l2 : lz.length ≤ 286) (d1 : 1 ≤ dz.length) (d2 : dz.length ≤ 30) (lf : fullB lz = true) (l256 : lz.getD 256 0 ≠ 0) (df : fullB dz = true ∨ loneB dz = true)
    (ok : StepsOk ss []) (ex : expandS ss [] = lz ++ dz) (h16 : Cst (lz ++ dz) → H16 ss) (hL : LensOk (cntK ss ss.length) 7 L) : TellOk lz dz L (toldN (orderedOf L) 4) ss ∧ L.length = 19 ∧ fullB L = true ∧ (∀ z ∈ L, 0 ≤ z ∧ z ≤ 7) := by
  have hll : L.length = 19 := by rw [hL.len, cntK_len]
  have hcnt : ∀ x ∈ ss, x.1.toNat < 19 ∧ 0 < (cntK ss ss.length).getD x.1.toNat 0 := fun x hx => by
    have hb := StepsOk.mem ok x hx
    have hlt : x.1.toNat < 19 := by omega
    refine ⟨hlt, ?_⟩
    have e : (cntK ss ss.length).getD x.1.toNat 0 = countS (ss.take ss.length) x.1.toNat := getD_tab _ hlt
    rw [e, List.take_length]
    exact countS_pos hx hb.1
  have hrow : (lz ++ dz).getD 256 0 ≠ 0 := by
    have g256 : (lz ++ dz).getD 256 0 = lz.getD 256 0 := by simp only [List.getD, List.getElem?_append_left (show 256 < lz.length by omega)]
    rw [g256]; exact l256
  have h2 : 2 ≤ (usedI (cntK ss ss.length) (cntK ss ss.length).length).length := by
    obtain ⟨x, hx, y, hy, hne⟩ := two_syms ok ex hrow (fun a ha hall => h16 ⟨a, ha, hall⟩)
    have bx := StepsOk.mem ok x hx
    have by_ := StepsOk.mem ok y hy
    exact two_used (by rw [cntK_len]; exact (hcnt x hx).1) (by rw [cntK_len]; exact (hcnt y hy).1) (by omega) (hcnt x hx).2 (hcnt y hy).2
  have hf : fullB L = true := hL.full' (by omega) (by rw [cntK_len]; omega) h2
  have h7 : ∀ z ∈ L, 0 ≤ z ∧ z ≤ 7 := fun z hz => by
    obtain ⟨i, hi, rfl⟩ := getD_ex hz
    have := hL.bd i (by rw [← hL.len]; exact hi)
    omega
  have ht := toldN_is (orderedOf L) 4
  have htl := ht.1
  have ht4 := ht.2.1 (by rw [orderedOf_len]; omega)
  rw [orderedOf_len] at htl
  refine ⟨⟨l1, l2, d1, d2, ht4, htl, hll, hf, h7, fun i h1 h2 => ht.2.2 i h1 (by rw [orderedOf_len]; exact h2), ok, ex, fun x hx => ?_, lf, l256, df⟩, hll, hf, h7⟩
  have := hcnt x hx
  exact ⟨by rw [hll]; exact this.1, (hL.pos _ (by rw [cntK_len]; exact this.1)).2 this.2⟩

theorem seg2 (w : World) (a b : Value) (t : TypeId) : Seg (w.alloc (.cells #[a, b] t)) 1 (some ⟨w.heap.size, 0, none⟩) 2 [a, b] :=
  ⟨rfl, fun _ => rfl, fun k u hu => by
    have hb := Blk.new w t #[a, b]
    show (w.alloc _).cell? ⟨w.heap.size, 0 + k, none⟩ = _
    rw [Nat.zero_add, hb.cell]
    simpa using hu⟩
/-- What is told, exactly. -/
def TellF (lz dz tz : List Int) (c : Nat) (ss : List Step) : Prop := StIs (lz ++ dz) 0 0 0 ss ∧ tz = lensF (cntK ss ss.length) 7 ∧ c = toldN (orderedOf tz) 4
theorem TellF.uniq {lz dz t1 t2 : List Int} {c1 c2 : Nat} {s1 s2 : List Step} (h : TellF lz dz t1 c1 s1) (h' : TellF lz dz t2 c2 s2) : t1 = t2 ∧ c1 = c2 ∧ s1 = s2 := by
  obtain ⟨a1, rfl, rfl⟩ := h
  obtain ⟨b1, rfl, rfl⟩ := h'
  obtain rfl := StIs.uniq _ _ _ _ _ a1 b1
  exact ⟨rfl, rfl, rfl⟩
def TellPost (w : World) (B gw : Nat) (WA : Option Addr) (bits : List Bool) (lz dz : List Int) (e : Ending) (w' : World) : Prop :=
  e = .returned (.tuple #[]) ∧ ∃ WB tz c ss, (TellOk lz dz tz c ss ∧ TellF lz dz tz c ss) ∧ WAt w w' B gw WA WB (bits ++ tellBits lz dz tz c ss)

theorem new_apart {w : World} {B gw : Nat} {WA : Option Addr} {bits : List Bool} (hw : Wr w B gw WA bits) {b n : Nat} {o : Nat} (h : w.heap.size ≤ b) : Apart gw WA (some ⟨b, o, none⟩) n := fun _ => by
  have h3 := hw.lt
  refine ⟨by show b ≠ gw; omega, fun e => ?_⟩
  have := (hw.base (k := b) e.symm).2
  omega

theorem own_apart {w w' : World} {B B' gw : Nat} {WA : Option Addr} {bits : List Bool} (hw : Wr w B gw WA bits) {e : TypeId} {sz : Nat} {A : Option Addr} {n c : Nat} {xs : List Value} (hown : Own w' B' e sz A n c xs) (hB : w.heap.size ≤ B') : Apart gw WA A n := fun hp => by
  have h1 := hown.obl hp
  have h2 := (hown.base h1).1
  have h3 := hw.lt
  refine ⟨by omega, fun e => ?_⟩
  have := (hw.base e.symm).2
  omega
theorem ordered_bd {L : List Int} (h : ∀ z ∈ L, 0 ≤ z ∧ z ≤ 7) : ∀ z ∈ orderedOf L, 0 ≤ z ∧ z ≤ 7 := fun z hz => by
  unfold orderedOf at hz
  obtain ⟨s, _, rfl⟩ := List.mem_map.1 hz
  by_cases hs : s < L.length
  · rw [List.getD, List.getElem?_eq_getElem hs]; exact h _ (List.getElem_mem hs)
  · rw [List.getD, List.getElem?_eq_none (by omega)]; simp
theorem flat3_len (l : List Int) : (l.flatMap fun z => digits z 3).length = 3 * l.length := by
  induction l with
  | nil => rfl
  | cons z l ih => rw [List.flatMap_cons, List.length_append, ih, digits_len, List.length_cons]; omega
theorem takeI_snoc {l : List Int} {k : Nat} {x : Int} (h : l[k]? = some x) : l.take (k + 1) = l.take k ++ [x] := by
  obtain ⟨h1, h2⟩ := List.getElem?_eq_some_iff.1 h
  rw [List.take_succ_eq_append_getElem h1, h2]
theorem StepOk.bits {r : List Int} {x : Step} (h : StepOk r x) : 0 ≤ x.2.2 ∧ x.2.2 ≤ 7 := by
  have h3 := h.2.2.1
  have : (stepOf x.1 r).2.2 ≤ 7 := by
    unfold stepOf
    split
    · simp
    · split
      · simp
      · split <;> simp
  omega
theorem StepsOk.bits {ss : List Step} : ∀ {r : List Int}, StepsOk ss r → ∀ x ∈ ss, 0 ≤ x.2.2 ∧ x.2.2 ≤ 7 := by
  induction ss with
  | nil => intro r _ x hx; cases hx
  | cons y ss ih =>
    intro r h x hx
    rcases List.mem_cons.1 hx with rfl | hx
    · exact h.1.bits
    · exact ih h.2 x hx
theorem stepsBits_len {L : List Int} (hL : ∀ z ∈ L, 0 ≤ z ∧ z ≤ 7) (ss : List Step) (hs : ∀ x ∈ ss, 0 ≤ x.2.2 ∧ x.2.2 ≤ 7) : (stepsBits L ss).length ≤ 20 * ss.length := by
  induction ss with
  | nil => simp [stepsBits]
  | cons x ss ih =>
    have e : stepsBits L (x :: ss) = stepBits L x ++ stepsBits L ss := by simp [stepsBits]
    have h1 : (stepBits L x).length ≤ 20 := by
      have hx := hs x (by simp)
      have hr : (rowOf L x.1.toNat).length ≤ 7 := by
        rw [rowOf_len]
        by_cases ht : x.1.toNat < L.length
        · rw [List.getD, List.getElem?_eq_getElem ht]
          have := hL L[x.1.toNat] (List.getElem_mem ht)
          show (L[x.1.toNat]).toNat ≤ 7
          omega
        · rw [List.getD, List.getElem?_eq_none (by omega)]; simp
      unfold stepBits
      rw [List.length_append, digits_len]
      omega
    have h2 := ih fun y hy => hs y (by simp [hy])
    rw [e, List.length_append, List.length_cons]
    omega

set_option maxRecDepth 100000 in
set_option maxHeartbeats 8000000 in
theorem tell_any (w : World) (B gw : Nat) (WA : Option Addr) (bits : List Bool) (LA DA : Option Addr) (ln lc dn dc : Nat) (lz dz : List Int)
    (hw : Wr w B gw WA bits) (hB : B ≤ w.heap.size) (hbl : bits.length ≤ 1000) (ho : OrdD w)
    (hl : Ints .i64 w LA ln lz) (hd : Ints .i64 w DA dn dz) (l1 : 257 ≤ ln) (l2 : ln ≤ 286) (d1 : 1 ≤ dn) (d2 : dn ≤ 30) (lf : fullB lz = true) (l256 : lz.getD 256 0 ≠ 0) (df : fullB dz = true ∨ loneB dz = true) (hzd : ∀ z ∈ dz, 0 ≤ z ∧ z ≤ 15) :
    Calls Tryz.prog 31 #[.pointer (some ⟨gw, 0, none⟩), .slice LA ln lc, .slice DA dn dc] w (TellPost w B gw WA bits lz dz) := by
  have HW := Lib.hid hw
  have HO := Lib.hid ho
  have HL := Lib.hid hl
  have HD := Lib.hid hd
  have HF : Hid (fullB lz = true ∧ lz.getD 256 0 ≠ 0 ∧ (fullB dz = true ∨ loneB dz = true) ∧ ∀ z ∈ dz, 0 ≤ z ∧ z ≤ 15) := ⟨lf, l256, df, hzd⟩
  have hLn := hl.len
  have hDn := hd.len
  clear hw ho hl hd lf l256 df hzd
  have HROW : Hid (∀ z ∈ lz ++ dz, 0 ≤ z ∧ z ≤ 15) := fun z hz => by
    rcases List.mem_append.1 hz with h | h
    · exact (full_parts HF.out.1).2.1 z h
    · exact HF.out.2.2.2 z h
  go_enter Tryz.func31, Tryz.ntmps31
  have hul : Upd [] w (w.alloc (.cells #[.slice LA ln lc, .slice DA dn dc] 64)) := (Upd.refl [] w).alloc _
  go_wp2_with fail
  refine (concatI_any _ 2 2 [⟨LA, ln, lc, lz⟩, ⟨DA, dn, dc, dz⟩] _ (seg2 w _ _ _) ?_ (by show ln + (dn + 0) ≤ _; omega) (by omega)).mono ?_
  · intro x hx
    simp only [List.mem_cons, List.not_mem_nil, or_false] at hx
    rcases hx with rfl | rfl
    · exact HL.out.upd hul (by simp)
    · exact HD.out.upd hul (by simp)
  rintro e w1 ⟨RA, rc, rfl, hR, hu1⟩
  have eS : sizes [⟨LA, ln, lc, lz⟩, ⟨DA, dn, dc, dz⟩] = ln + dn := by simp [sizes]
  have eZ : allZ [⟨LA, ln, lc, lz⟩, ⟨DA, dn, dc, dz⟩] = lz ++ dz := by simp [allZ]
  rw [eS, eZ] at hR
  rw [eS]
  have HU1 : Hid (Upd [] w w1) := hul.trans hu1
  have HR1 := Lib.hid (Ints.ofOwn hR)
  clear hR eS eZ hul hu1
  go_wp2_with fail
  refine (steps_any RA (ln + dn) rc (lz ++ dz) w1 HR1.out HROW.out (by omega) (by omega)).mono ?_
  rintro e w2 ⟨SA, sc, ss, rfl, hst, hsi, h16⟩
  have HSI := Lib.hid hsi
  clear hsi
  have HST := Lib.hid hst
  have HLO1 : Hid (w.heap.size ≤ w1.heap.size ∧ w1.heap.size ≤ w2.heap.size) := ⟨HU1.out.size, hst.upd.size⟩
  have H16' := Lib.hid h16
  have HU2 : Hid (Upd [] w w2) := HU1.out.trans hst.upd
  obtain ⟨M, hM⟩ : ∃ M, M = ss.length := ⟨_, rfl⟩
  have HM := Lib.hid hM
  have hM400 : M ≤ 400 := by have := hst.len; rw [List.length_append, hLn.out, hDn.out] at this; omega
  rw [← hM]
  clear hst h16 hM HR1 HU1
  go_wp2_with (at_make; refine wpList_mk rfl rfl w2.heap.size el_int 19 rfl rfl rfl rfl rfl (by omega) (by simp only [maxLen]; omega) (Nat.le_refl _) ?_; intro A3 w3 hown3 hu3 hob3; obtain ⟨b1, rfl, hb1, hblk⟩ := own_whole hown3 (by omega))
  have HB1 : Hid (w2.heap.size ≤ b1) := hb1
  have HC0 : Hid (Blk w3 b1 3 ((cntK ss 0).map (Value.int .i64)).toArray ∧ Upd [] w2 w3) := ⟨by rw [cntK_zero, List.map_replicate]; exact hblk, hu3⟩
  clear hown3 hu3 hob3 hb1 hblk
  go_loopw [29] (fun v wr => ∃ k : Nat, k ≤ M ∧ v = .int .i64 k ∧ Hid (Blk wr b1 3 ((cntK ss k).map (Value.int .i64)).toArray ∧ Upd [] w2 wr)) (fun v _ => M - (intOf v).toNat)
  case atStart => exact ⟨0, by omega, rfl, HC0⟩
  case round =>
    clear HC0
    obtain ⟨k, hk, rfl, HC⟩ := hrel
    by_cases hlt : k < M
    · have hkp : k < ss.length := by rw [← HM.out]; exact hlt
      obtain ⟨x, hx⟩ : ∃ x, ss[k]? = some x := ⟨_, List.getElem?_eq_getElem hkp⟩
      obtain ⟨hc1, hc2, hc3⟩ := scells_get hx
      have hsw := HST.out.own.seg.upd HC.out.2 (by omega) (by simp)
      have p0 := hsw.cell _ _ hc1
      have p1 := hsw.cell _ _ hc2
      have p2 := hsw.cell _ _ hc3
      rw [← Nat.add_assoc] at p1 p2
      have ix := hsw.index el_step sc .i64 k hkp
      rw [← HM.out] at ix
      have hmem := StepsOk.mem HST.out.ok x (List.mem_of_getElem? hx)
      have HX := Lib.hid hx
      obtain ⟨x1, x2, x3⟩ := x
      simp only at p0 p1 p2 hmem
      clear hsw hc1 hc2 hc3 hkp hx
      go_upto_region 5 with (fail)
      obtain ⟨w4, hw4⟩ : ∃ w4 : World, w4 = wr.alloc (.cells #[.int .i64 x1, .int .i64 x2, .int .i64 x3] 115) := ⟨_, rfl⟩
      obtain ⟨g9, hg9⟩ : ∃ g9, g9 = wr.heap.size := ⟨_, rfl⟩
      rw [← hw4, ← hg9]
      have hu4 : Upd [] wr w4 := by rw [hw4]; exact (Upd.refl _ _).alloc _
      have HK4 : Hid (Blk w4 g9 115 #[.int .i64 x1, .int .i64 x2, .int .i64 x3]) := by rw [hw4, hg9]; exact Blk.new _ _ _
      have HC4 : Hid (Blk w4 b1 3 ((cntK ss k).map (Value.int .i64)).toArray ∧ Upd [] w2 w4) := ⟨HC.out.1.upd hu4 (by simp), HC.out.2.trans hu4⟩
      clear hu4 hw4 hg9 p0 p1 p2 ix HC
      have e0 := HK4.out.cell 0
      simp at e0
      obtain ⟨s, rfl⟩ := Int.eq_ofNat_of_zero_le hmem.1
      have hs : s < 19 := by omega
      obtain ⟨v, hv⟩ : ∃ v, (cntK ss k)[s]? = some v := ⟨_, List.getElem?_eq_getElem (by rw [cntK_len]; exact hs)⟩
      have hvb := cntK_bd ss k v (List.mem_of_getElem? hv)
      rw [← HM.out] at hvb
      have cv := blk_cellI HC4.out.1 hv
      have fv := HC4.out.1.frozen s
      have iv := blk_index b1 19 .i64 (s : Int) s rfl hs
      have HSTEP : Hid (Blk (w4.setCell ⟨b1, s, none⟩ (.int .i64 (v + 1))) b1 3 ((cntK ss (k + 1)).map (Value.int .i64)).toArray ∧ Upd [] w2 (w4.setCell ⟨b1, s, none⟩ (.int .i64 (v + 1)))) := by
        refine ⟨?_, HC4.out.2.put HB1.out _⟩
        have := blk_setI HC4.out.1 s (v + 1)
        rw [cntK_step HX.out rfl hv] at this
        exact this
      clear hv hmem
      go_wp2
      go_roundw
      case rel => exact ⟨k + 1, by omega, by go_num, HSTEP⟩
      case measure => simp [intOf]; omega
    · obtain rfl : k = M := by omega
      have HCT : Hid (Ints .i64 wr (some ⟨b1, 0, none⟩) 19 (cntK ss ss.length) ∧ Upd [] w2 wr) := by
        refine ⟨?_, HC.out.2⟩
        have := HC.out.1.seg
        rw [← HM.out]
        simp only [List.size_toArray, List.length_map, cntK_len] at this
        exact this
      clear HC
      have HBL : Hid (badL (cntK ss ss.length) 7 = 0) := by
        refine badL_fits (by rw [cntK_len]; omega) (fun z hz => ?_) (by omega) (by omega) (by rw [cntK_len]; decide)
        have := cntK_bd ss _ z hz
        have := HM.out
        omega
      go_wp2_with fail
      refine (lengths_any (some ⟨b1, 0, none⟩) 19 19 (cntK ss ss.length) 7 wr HCT.out.1).mono ?_
      rintro e w5 (⟨hb, _⟩ | ⟨_, TA, tc, L, rfl, hoL, hL, hu5⟩)
      · exact absurd HBL.out hb
      have HTELL := Lib.hid (tellOk_mk (lz := lz) (dz := dz) (ss := ss) (L := L) (by rw [hLn.out]; exact l1) (by rw [hLn.out]; exact l2) (by rw [hDn.out]; exact d1) (by rw [hDn.out]; exact d2) HF.out.1 HF.out.2.1 HF.out.2.2.1 HST.out.ok (by rw [HST.out.ex, List.take_length]) H16'.out hL)
      have HLF : Hid (L = lensF (cntK ss ss.length) 7) := hL.eq
      have HU5 : Hid (Upd [] w2 w5) := HCT.out.2.trans hu5
      have HTA := Lib.hid (hoL.monoB HCT.out.2.size)
      clear hoL hL hu5 HCT HBL
      go_wp2_with fail
      refine (codes_ok TA 19 tc L w5 (Ints.ofOwn HTA.out) (full_parts HTELL.out.2.2.1).2.2.2).mono ?_
      rintro e w6 ⟨C, cc, rfl, hC, hu6⟩
      have HC6 := Lib.hid (hC.monoB HU5.out.size)
      have HU6 : Hid (Upd [] w2 w6) := HU5.out.trans hu6
      have HTA6 := Lib.hid (HTA.out.upd hu6 (by simp))
      clear hC hu6 HTA HU5
      have HGL : Hid (0 < w.heap.size) := HO.out.low
      go_wp2_with (first | (at_make; refine wpList_mk rfl rfl w6.heap.size el_int 19 rfl rfl rfl rfl rfl (by omega) (by simp only [maxLen]; omega) (Nat.le_refl _) ?_; intro A7 w7 hown7 hu7 hob7; obtain ⟨b2, rfl, hb2, hblk⟩ := own_whole hown7 (by omega); have HO7 : Hid (OrdD w7) := (((HO.out.upd HU2.out (by simp)).upd HU6.out (by simp)).upd hu7 (by simp))) | (refine wpList_order (by rfl) (by rfl) HO7.out ?_))
      have HB2 : Hid (w6.heap.size ≤ b2) := hb2
      have HR0 : Hid (Blk w7 b2 3 ((ordK L 0).map (Value.int .i64)).toArray ∧ Upd [] w6 w7) := ⟨by rw [ordK_zero, List.map_replicate]; exact hblk, hu7⟩
      clear hown7 hu7 hob7 hb2 hblk HO7
      go_loopw [53] (fun v wr => ∃ k : Nat, k ≤ 19 ∧ v = .int .i64 k ∧ Hid (Blk wr b2 3 ((ordK L k).map (Value.int .i64)).toArray ∧ Upd [] w6 wr)) (fun v _ => 19 - (intOf v).toNat)
      case atStart => exact ⟨0, by omega, rfl, HR0⟩
      case round =>
        clear HR0
        obtain ⟨q, hq, rfl, HR⟩ := hrel
        by_cases hlq : q < 19
        · obtain ⟨o, ho⟩ : ∃ o, o = orderL.getD q 0 := ⟨_, rfl⟩
          have ho19 : o < 19 := by rw [ho]; exact ord_lt q hlq
          have hio : ∀ W : World, (Instr.index 116 (.agg ordC.toArray) (.int .i64 q)).run Tryz.prog W = .ok (.int .i64 o) W := fun W => by rw [ho]; exact index_ordC q hlq W
          have hTA := (HTA6.out.upd HR.out.2 (by simp))
          obtain ⟨x, HX, cx⟩ := (Ints.ofOwn hTA).int ho19
          have ix := (Ints.ofOwn hTA).index el_int tc .i64 o ho19
          have HXV : Hid (L.getD (orderL.getD q 0) 0 = x) := by show _ = _; rw [← ho]; exact getD_of HX.out
          obtain ⟨y, hy⟩ : ∃ y, (ordK L q)[q]? = some y := ⟨_, List.getElem?_eq_getElem (by rw [ordK_len]; exact hlq)⟩
          have cy := blk_cellI HR.out.1 hy
          have fy := HR.out.1.frozen q
          have iy := blk_index b2 19 .i64 (q : Int) q rfl hlq
          have HSTEP : Hid (Blk (wr.setCell ⟨b2, q, none⟩ (.int .i64 x)) b2 3 ((ordK L (q + 1)).map (Value.int .i64)).toArray ∧ Upd [] w6 (wr.setCell ⟨b2, q, none⟩ (.int .i64 x))) := by
            refine ⟨?_, HR.out.2.put HB2.out _⟩
            have := blk_setI HR.out.1 q x
            rw [ordK_step L hlq HXV.out] at this
            exact this
          clear hy hTA ho HX
          go_wp2
          go_roundw
          case rel => exact ⟨q + 1, by omega, by go_num, HSTEP⟩
          case measure => simp [intOf]; omega
        · obtain rfl : q = 19 := by omega
          have HOR : Hid (Ints .i64 wr (some ⟨b2, 0, none⟩) 19 (orderedOf L)) := by
            have := HR.out.1.seg
            rw [← ordK_all]
            simp only [List.size_toArray, List.length_map, ordK_len] at this
            exact this
          have HU8 : Hid (Upd [] w wr) := (HU2.out.trans HU6.out).trans HR.out.2
          have HC8 := Lib.hid (HC6.out.upd HR.out.2 (by simp))
          have HT8 := Lib.hid (HTA6.out.upd HR.out.2 (by simp))
          have HS8 : Hid (Seg wr 3 SA ss.length (scells ss)) := HST.out.own.seg.upd (HU6.out.trans HR.out.2) (by omega) (by simp)
          have HLO : Hid (w.heap.size ≤ w2.heap.size ∧ w2.heap.size ≤ w6.heap.size) := ⟨HU2.out.size, HU6.out.size⟩
          clear HR
          obtain ⟨cn, hcn⟩ : ∃ cn, cn = toldN (orderedOf L) 4 := ⟨_, rfl⟩
          have HCN := Lib.hid hcn
          have hcn4 : 4 ≤ cn := by rw [hcn]; exact HTELL.out.1.c1
          have hcn19 : cn ≤ 19 := by rw [hcn]; exact HTELL.out.1.c2
          have HTD : Hid (Calls Tryz.prog 65 #[.slice (some ⟨b2, 0, none⟩) 19 19, .int .i64 4] wr fun e w' => e = .returned (.int .i64 cn) ∧ wr = w') := by
            rw [hcn]
            exact told_any _ 19 19 (orderedOf L) 4 wr HOR.out (by omega) (by omega) (by omega)
          clear hcn
          have cut := run_cut_h el_int (some ⟨b2, 0, none⟩) 19 19 .i64 (cn : Int) cn rfl hcn19
          go_wp2_with (first | (go_at_call 65; refine HTD.out.mono ?_; rintro e w' ⟨rfl, rfl⟩) | fail)
          obtain ⟨w8, rfl⟩ : ∃ w8, w8 = wr := ⟨wr, rfl⟩
          have HTW : Hid (WAt w8 w8 B gw WA WA bits) := WAt.start (HW.out.upd HU8.out (by simp) (by simp)) (by have := HU8.out.size; omega)
          have AS : Hid (Apart gw WA SA ss.length) := own_apart HW.out HST.out.own HLO1.out.1
          have AC : Hid (Apart gw WA C 19) := own_apart HW.out HC6.out HLO.out.1
          have AT : Hid (Apart gw WA TA 19) := own_apart HW.out HTA6.out HLO.out.1
          have AO : Hid (Apart gw WA (some ⟨b2, 0, none⟩) 19) := new_apart HW.out (by have := HB2.out; have := HLO.out; omega)
          have HCI : Hid (Ints .i64 w8 C 19 (tab L.length (codeOf L))) := Ints.ofOwn HC8.out
          have HTI : Hid (Ints .i64 w8 TA 19 L) := Ints.ofOwn HT8.out
          clear HTD HW HC6 HC8 HTA6 HT8 HO HGL HB2 HLO1
          refine (put_at HTW.out (by omega) ((ln : Int) - 257) 5 (by omega) (by omega)).mono ?_
          rintro e w9 ⟨rfl, W9, hT9, -⟩
          have HT9 := Lib.hid hT9
          clear hT9 HTW
          go_wp2_with fail
          refine (put_at HT9.out (by rw [List.length_append, digits_len]; simp; omega) ((dn : Int) - 1) 5 (by omega) (by omega)).mono ?_
          rintro e w10 ⟨rfl, W10, hT10, -⟩
          have HT10 := Lib.hid hT10
          clear hT10 HT9
          go_wp2_with fail
          refine (put_at HT10.out (by rw [List.length_append, List.length_append, digits_len, digits_len]; simp; omega) ((cn : Int) - 4) 4 (by omega) (by omega)).mono ?_
          rintro e w11 ⟨rfl, W11, hT11, -⟩
          obtain ⟨X3, hX3⟩ : ∃ X3, X3 = bits ++ digits ((ln : Int) - 257) (5 : Int).toNat ++ digits ((dn : Int) - 1) (5 : Int).toNat ++ digits ((cn : Int) - 4) (4 : Int).toNat := ⟨_, rfl⟩
          rw [← hX3] at hT11
          have hx3l : X3.length ≤ 1100 := by rw [hX3]; simp only [List.length_append, digits_len]; show _ + 5 + 5 + 4 ≤ _; omega
          have HX3 := Lib.hid hX3
          have HT11 := Lib.hid hT11
          clear hT11 HT10 hX3
          have HCO : Hid (∀ z ∈ orderedOf L, 0 ≤ z ∧ z ≤ 7) := ordered_bd HTELL.out.2.2.2
          go_wp2
          go_loopw [86] (fun v wx => ∃ (q : Nat) (WB : Option Addr), q ≤ cn ∧ v = .int .i64 q ∧ Hid (WAt w8 wx B gw WA WB (X3 ++ ((orderedOf L).take q).flatMap fun z => digits z 3))) (fun v _ => cn - (intOf v).toNat)
          case atStart => exact ⟨0, W11, by omega, rfl, by simp only [List.take_zero, List.flatMap_nil, List.append_nil]; exact HT11⟩
          case round =>
            clear HT11
            obtain ⟨q, WB, hq, rfl, HT⟩ := hrel
            have hfl : ((((orderedOf L).take q).flatMap fun z => digits z 3)).length = 3 * q := by
              rw [flat3_len, List.length_take, orderedOf_len]
              omega
            by_cases hlq : q < cn
            · have hin := ((HT.out.ints HOR.out AO.out).pre (k := cn) hcn19)
              obtain ⟨x, HX, cx⟩ := hin.int hlq
              have ix := hin.index el_int 19 .i64 q hlq
              have hxo : (orderedOf L)[q]? = some x := by have := HX.out; rw [List.getElem?_take_of_lt hlq] at this; exact this
              have hxb := HCO.out x (List.mem_of_getElem? hxo)
              have HXO := Lib.hid hxo
              have hx3q : (X3 ++ ((orderedOf L).take q).flatMap fun z => digits z 3).length ≤ 2000 := by rw [List.length_append, hfl]; omega
              clear hin HX hxo hfl
              go_wp2_with fail
              refine (put_at HT.out (by omega) x 3 (by omega) (by omega)).mono ?_
              rintro e w12 ⟨rfl, W12, hT12, -⟩
              have HT12 : Hid (WAt w8 w12 B gw WA W12 (X3 ++ ((orderedOf L).take (q + 1)).flatMap fun z => digits z 3)) := by
                show WAt _ _ _ _ _ _ _
                rw [takeI_snoc HXO.out, List.flatMap_append, List.flatMap_singleton, ← List.append_assoc]
                exact hT12
              clear hT12 HT
              go_wp2
              go_roundw
              case rel => exact ⟨q + 1, W12, by omega, by go_num, HT12⟩
              case measure => simp [intOf]; omega
            · obtain rfl : q = cn := by omega
              obtain ⟨X4, hX4⟩ : ∃ X4, X4 = X3 ++ ((orderedOf L).take q).flatMap fun z => digits z 3 := ⟨_, rfl⟩
              rw [← hX4] at HT
              have hx4l : X4.length ≤ 2000 := by rw [hX4, List.length_append, hfl]; omega
              have HX4 := Lib.hid hX4
              clear hX4 hfl
              go_wp2
              go_loopw [96] (fun v wx => ∃ (r : Nat) (WB : Option Addr), r ≤ k ∧ v = .int .i64 r ∧ Hid (WAt w8 wx B gw WA WB (X4 ++ stepsBits L (ss.take r)))) (fun v _ => k - (intOf v).toNat)
              case atStart => exact ⟨0, WB, by omega, rfl, by simp only [List.take_zero, stepsBits, List.flatMap_nil, List.append_nil]; exact HT⟩
              case round =>
                clear HT
                obtain ⟨r, WD, hr, rfl, HT⟩ := hrel
                have HLB : Hid ((X4 ++ stepsBits L (ss.take r)).length ≤ 20000) := by
                  have h1 := stepsBits_len HTELL.out.2.2.2 (ss.take r) fun x hx => StepsOk.bits HST.out.ok x (List.mem_of_mem_take hx)
                  rw [List.length_take] at h1
                  show _ ≤ _
                  rw [List.length_append]
                  have := HM.out
                  omega
                by_cases hlr : r < k
                · have hkp : r < ss.length := by rw [← HM.out]; exact hlr
                  obtain ⟨x, hx⟩ : ∃ x, ss[r]? = some x := ⟨_, List.getElem?_eq_getElem hkp⟩
                  obtain ⟨hc1, hc2, hc3⟩ := scells_get hx
                  have hsw := HT.out.seg (by omega) HS8.out AS.out
                  have p0 := hsw.cell _ _ hc1
                  have p1 := hsw.cell _ _ hc2
                  have p2 := hsw.cell _ _ hc3
                  rw [← Nat.add_assoc] at p1 p2
                  have ix := hsw.index el_step sc .i64 r hkp
                  rw [← HM.out] at ix
                  have hmem := StepsOk.mem HST.out.ok x (List.mem_of_getElem? hx)
                  have hbit := StepsOk.bits HST.out.ok x (List.mem_of_getElem? hx)
                  have HBK : Hid (stepsBits L (ss.take (r + 1)) = stepsBits L (ss.take r) ++ stepBits L x) := by show _ = _; rw [takeS_snoc hx, stepsBits_snoc]
                  obtain ⟨X, hX⟩ : ∃ X, X = X4 ++ stepsBits L (ss.take r) := ⟨_, rfl⟩
                  rw [← hX] at HT HLB
                  have HX := Lib.hid hX
                  have hxl : X.length ≤ 20000 := HLB.out
                  obtain ⟨x1, x2, x3⟩ := x
                  simp only at p0 p1 p2 hmem hbit
                  clear hsw hc1 hc2 hc3 hkp hx hX HLB
                  go_upto_region 27 with (fail)
                  obtain ⟨w13, hw13⟩ : ∃ w13 : World, w13 = wr.alloc (.cells #[.int .i64 x1, .int .i64 x2, .int .i64 x3] 115) := ⟨_, rfl⟩
                  obtain ⟨g20, hg20⟩ : ∃ g20, g20 = wr.heap.size := ⟨_, rfl⟩
                  rw [← hw13, ← hg20]
                  have hu13 : Upd [] wr w13 := by rw [hw13]; exact (Upd.refl _ _).alloc _
                  have HK13 : Hid (Blk w13 g20 115 #[.int .i64 x1, .int .i64 x2, .int .i64 x3]) := by rw [hw13, hg20]; exact Blk.new _ _ _
                  have HT13 := Lib.hid (HT.out.calm hu13)
                  clear hu13 hw13 hg20 p0 p1 p2 ix HT
                  have e0 := HK13.out.cell 0
                  simp at e0
                  obtain ⟨s, rfl⟩ := Int.eq_ofNat_of_zero_le hmem.1
                  have hs : s < 19 := by omega
                  obtain ⟨lv, HLV, cl⟩ := (HT13.out.ints HTI.out AT.out).int hs
                  obtain ⟨cv, HCV, ck⟩ := (HT13.out.ints HCI.out AC.out).int hs
                  have hlvb := HTELL.out.2.2.2 lv (List.mem_of_getElem? HLV.out)
                  have HLD : Hid (L.getD s 0 = lv) := getD_of HLV.out
                  have HCE : Hid (cv = codeOf L s) := by
                    have := HCV.out
                    rw [tab_get _ (by rw [HTELL.out.2.1]; exact hs)] at this
                    injection this with this
                    exact this.symm
                  have il := HTI.out.index el_int tc .i64 s hs
                  have ic := HCI.out.index el_int cc .i64 s hs
                  clear HLV HCV hmem
                  go_still_tail 11, (by kernel_rfl)
                  change wpList _ _ _ _ _ w13.drew
                  have HT14 : Hid (WAt w8 w13.drew B gw WA WD X) := HT13.out.calm ((Upd.refl _ _).drew)
                  have HK14 : Hid (Blk w13.drew g20 115 #[.int .i64 s, .int .i64 x2, .int .i64 x3]) := HK13.out
                  have cl' : w13.drew.cell? ⟨bl TA, ofs TA + s, none⟩ = some (.int .i64 lv) := cl
                  have ck' : w13.drew.cell? ⟨bl C, ofs C + s, none⟩ = some (.int .i64 cv) := ck
                  have e0' : w13.drew.cell? ⟨g20, 0, none⟩ = some (.int .i64 s) := e0
                  generalize w13.drew = w14 at HT14 HK14 cl' ck' e0' ⊢
                  clear HT13 HK13 cl ck e0
                  go_wp2_with fail
                  refine (code_at HT14.out (by omega) HCE.out HLD.out hlvb.1 (by omega)).mono ?_
                  rintro e w15 ⟨rfl, W15, hT15, hv15⟩
                  have HK15 := Lib.hid (HT14.out.blk HK14.out hv15 (by decide) (by decide))
                  have HT15 := Lib.hid hT15
                  have hrl : (rowOf L s).length ≤ 7 := by rw [rowOf_len, HLD.out]; omega
                  have e1 := HK15.out.cell 1
                  have e2 := HK15.out.cell 2
                  simp at e1 e2
                  clear hT15 hv15 HT14 HK14 cl' ck' e0'
                  go_wp2_with fail
                  refine (put_at HT15.out (by rw [List.length_append]; omega) x2 x3 (by omega) (by omega)).mono ?_
                  rintro e w16 ⟨rfl, W16, hT16, -⟩
                  have HT16 : Hid (WAt w8 w16 B gw WA W16 (X4 ++ stepsBits L (ss.take (r + 1)))) := by
                    show WAt _ _ _ _ _ _ _
                    rw [HBK.out]
                    unfold stepBits
                    simp only [Int.toNat_natCast]
                    rw [← List.append_assoc, ← List.append_assoc, ← HX.out]
                    exact hT16
                  clear hT16 HT15 HK15 e1 e2
                  go_wp2
                  go_roundw
                  case rel => exact ⟨r + 1, W16, by omega, by go_num, HT16⟩
                  case measure => simp [intOf]; omega
                · obtain rfl : r = k := by omega
                  go_wp2
                  go_end0
                  refine ⟨rfl, WD, L, q, ss, ⟨by rw [HCN.out]; exact HTELL.out.1, HSI.out, HLF.out, HCN.out⟩, ?_⟩
                  have hT := HT.out
                  rw [List.take_of_length_le (by rw [← HM.out]; exact Nat.le_refl _), HX4.out, HX3.out] at hT
                  have e : bits ++ tellBits lz dz L q ss = bits ++ digits ((ln : Int) - 257) (5 : Int).toNat ++ digits ((dn : Int) - 1) (5 : Int).toNat ++ digits ((q : Int) - 4) (4 : Int).toNat ++ (((orderedOf L).take q).flatMap fun z => digits z 3) ++ stepsBits L ss := by
                    unfold tellBits
                    rw [hLn.out, hDn.out]
                    simp only [List.append_assoc]
                    rfl
                  rw [e]
                  exact ⟨hT.wri, HU8.out.mono (by simp) |>.trans hT.upd, fun b hb => by rcases hT.fresh b hb with h | h; exact Or.inl h; right; have := HU8.out.size; omega, hB⟩

end Go.Proofs.YtolcdlopgbgilaaGreatDoor
