/- Merged by wip/tools/merge.py: DefJ DefK. -/
import Derived.Deep.CutBlock
import Derived.Test.YtolcdlopgbgilaaDoorMc16

/-! Text DefJ. -/
namespace Go.Proofs.YtolcdlopgbgilaaDoor
open Go.RowKit Go.Dray

theorem el_step : El Tryd.prog 119 122 (.agg #[.int .i64 0, .int .i64 0, .int .i64 0]) 3 24 := ⟨Tryd.underlying119, by kernel_rfl, rfl, by omega⟩

/-- A step's cells. -/
def scell (x : Step) : List Value := [.int .i64 x.1, .int .i64 x.2.1, .int .i64 x.2.2]
def scells (ss : List Step) : List Value := ss.flatMap scell
theorem scells_snoc (ss : List Step) (x : Step) : scells (ss ++ [x]) = scells ss ++ [.int .i64 x.1, .int .i64 x.2.1, .int .i64 x.2.2] := by simp [scells, scell]
theorem scells_get {ss : List Step} {k : Nat} {x : Step} (h : ss[k]? = some x) : (scells ss)[k * 3]? = some (.int .i64 x.1) ∧ (scells ss)[k * 3 + 1]? = some (.int .i64 x.2.1) ∧ (scells ss)[k * 3 + 2]? = some (.int .i64 x.2.2) := by
  induction ss generalizing k with
  | nil => simp at h
  | cons y ss ih =>
    have e : scells (y :: ss) = .int .i64 y.1 :: .int .i64 y.2.1 :: .int .i64 y.2.2 :: scells ss := by simp [scells, scell]
    rw [e]
    match k, h with
    | 0, h => simp at h; subst h; exact ⟨rfl, rfl, rfl⟩
    | k + 1, h =>
      have := ih (k := k) (by simpa using h)
      rw [show (k + 1) * 3 = k * 3 + 1 + 1 + 1 from by omega]
      exact ⟨by simpa using this.1, by simpa using this.2.1, by simpa using this.2.2⟩

theorem Seg.tri (w : World) (x y z : Value) (t : TypeId) : Seg (w.alloc (.cells #[x, y, z] t)) 3 (some ⟨w.heap.size, 0, none⟩) 1 [x, y, z] :=
  ⟨rfl, fun _ => rfl, fun k u hu => by
    match k, hu with
    | 0, hu => simp at hu; subst hu; simp [bl, ofs]
    | 1, hu => simp at hu; subst hu; simp [bl, ofs]
    | 2, hu => simp at hu; subst hu; simp [bl, ofs]⟩

/-- A row of one length that is not nought. -/
def Cst (zs : List Int) : Prop := ∃ a, a ≠ 0 ∧ ∀ z ∈ zs, z = a
def H16 (ss : List Step) : Prop := ∃ x ∈ ss, x.1 = 16
theorem H16.snoc {ss : List Step} (h : H16 ss) (x : Step) : H16 (ss ++ [x]) := by
  obtain ⟨y, hy, h16⟩ := h
  exact ⟨y, by simp [hy], h16⟩

theorem step_lit {r : List Int} {v : Int} (h0 : 0 ≤ v) (h1 : v ≤ 15) : StepOk r (v, 0, 0) ∧ growS r (v, 0, 0) = r ++ List.replicate 1 v := by
  have e : stepOf v r = (v, 1, 0) := by unfold stepOf; rw [if_neg (by omega), if_neg (by omega), if_neg (by omega)]
  refine ⟨⟨h0, by simp only; omega, by simp only [e]; rfl, by simp, by simp, fun h => by simp only at h; omega⟩, ?_⟩
  unfold growS
  simp only [e]
  rfl
theorem step_16 {r : List Int} {v : Int} (hr : r.getLastD 0 = v) (hn : r ≠ []) {k : Nat} (h1 : 3 ≤ k) (h2 : k ≤ 6) {m : Int} (hm : m = (k : Int) - 3) : StepOk r (16, m, 2) ∧ growS r (16, m, 2) = r ++ List.replicate k v := by
  subst hm
  have e : stepOf 16 r = (r.getLastD 0, 3, 2) := rfl
  refine ⟨⟨by simp, by simp, by simp only [e]; rfl, by simp only; omega, by simp only; show (k : Int) - 3 < 4; omega, fun _ => hn⟩, ?_⟩
  unfold growS
  simp only [e]
  rw [hr, show (3 + ((k : Int) - 3)).toNat = k from by omega]
theorem step_17 {r : List Int} {k : Nat} (h1 : 3 ≤ k) (h2 : k ≤ 10) {m : Int} (hm : m = (k : Int) - 3) : StepOk r (17, m, 3) ∧ growS r (17, m, 3) = r ++ List.replicate k 0 := by
  subst hm
  have e : stepOf 17 r = (0, 3, 3) := rfl
  refine ⟨⟨by simp, by simp, by simp only [e]; rfl, by simp only; omega, by simp only; show (k : Int) - 3 < 8; omega, fun h => by simp at h⟩, ?_⟩
  unfold growS
  simp only [e]
  rw [show (3 + ((k : Int) - 3)).toNat = k from by omega]
theorem step_18 {r : List Int} {k : Nat} (h1 : 11 ≤ k) (h2 : k ≤ 138) {m : Int} (hm : m = (k : Int) - 11) : StepOk r (18, m, 7) ∧ growS r (18, m, 7) = r ++ List.replicate k 0 := by
  subst hm
  have e : stepOf 18 r = (0, 11, 7) := rfl
  refine ⟨⟨by simp, by simp, by simp only [e]; rfl, by simp only; omega, by simp only; show (k : Int) - 11 < 128; omega, fun h => by simp at h⟩, ?_⟩
  unfold growS
  simp only [e]
  rw [show (11 + ((k : Int) - 11)).toNat = k from by omega]
theorem take_rep {zs : List Int} {a k : Nat} {v : Int} (h : ∀ j, j < k → zs.getD (a + j) 0 = v) (hl : a + k ≤ zs.length) : zs.take a ++ List.replicate k v = zs.take (a + k) := by
  induction k with
  | zero => simp
  | succ k ih =>
    rw [List.replicate_succ', ← List.append_assoc, ih (fun j hj => h j (by omega)) (by omega), show a + (k + 1) = a + k + 1 from rfl, List.take_succ_eq_append_getElem (by omega)]
    have := h k (by omega)
    rw [List.getD, List.getElem?_eq_getElem (by omega)] at this
    simp only [Option.getD_some] at this
    rw [this]
theorem take_last {zs : List Int} {a : Nat} (h1 : 1 ≤ a) (h2 : a ≤ zs.length) : (zs.take a).getLastD 0 = zs.getD (a - 1) 0 ∧ zs.take a ≠ [] := by
  refine ⟨?_, fun h => ?_⟩
  · obtain ⟨b, rfl⟩ : ∃ b, a = b + 1 := ⟨a - 1, by omega⟩
    rw [List.take_succ_eq_append_getElem (by omega), Nat.add_sub_cancel, List.getD, List.getElem?_eq_getElem (by omega), List.getLastD_eq_getLast?, List.getLast?_append]
    simp
  · have := congrArg List.length h
    rw [List.length_take, Nat.min_eq_left h2] at this
    simp at this
    omega
theorem one_eq {zs : List Int} {i : Nat} {v : Int} (h : zs.getD i 0 = v) : ∀ j, j < 1 → zs.getD (i + j) 0 = v := fun j hj => by
  obtain rfl : j = 0 := by omega
  exact h
/-- The steps in memory; they tell the first a lengths. -/
structure StAt (w wr : World) (SA : Option Addr) (sc : Nat) (ss : List Step) (zs : List Int) (a : Nat) : Prop where
  own : Own wr w.heap.size 122 3 SA ss.length sc (scells ss)
  ok : StepsOk ss []
  ex : expandS ss [] = zs.take a
  upd : Upd [] w wr
theorem StAt.drewN {w wr : World} {SA : Option Addr} {sc : Nat} {ss : List Step} {zs : List Int} {a : Nat} (h : StAt w wr SA sc ss zs a) (q : Nat) : StAt w (wr.drewN q) SA sc ss zs a := ⟨h.own, h.ok, h.ex, h.upd.drewN q⟩
theorem StAt.len {w wr : World} {SA : Option Addr} {sc : Nat} {ss : List Step} {zs : List Int} {a : Nat} (h : StAt w wr SA sc ss zs a) : ss.length ≤ a := by
  have := expandS_ge ss [] h.ok
  rw [h.ex, List.length_take] at this
  simp at this
  omega
/-- A step is appended. -/
theorem StAt.push {w wr w' : World} {SA SA' : Option Addr} {sc sc' : Nat} {ss : List Step} {zs : List Int} {a : Nat} (h : StAt w wr SA sc ss zs a) {x : Step} {k : Nat} {v : Int} (hx : StepOk (zs.take a) x ∧ growS (zs.take a) x = zs.take a ++ List.replicate k v) (hz : ∀ j, j < k → zs.getD (a + j) 0 = v) (hl : a + k ≤ zs.length)
    {o : Obj} (hown : Own w' w.heap.size 122 3 SA' (ss.length + 1) sc' (scells ss ++ [.int .i64 x.1, .int .i64 x.2.1, .int .i64 x.2.2])) (hu : Upd [ob SA] (wr.alloc o) w') : StAt w w' SA' sc' (ss ++ [x]) zs (a + k) := by
  refine ⟨?_, h.ok.snoc (by rw [h.ex]; exact hx.1), ?_, (h.upd.alloc o).then hu fun b hb => ?_⟩
  · rw [List.length_append, scells_snoc]; exact hown
  · rw [expandS_snoc, h.ex, hx.2, take_rep hz hl]
  · simp at hb
    exact Or.inr (h.own.base hb.symm).1

def StepsPost (w : World) (zs : List Int) (e : Ending) (w' : World) : Prop :=
  ∃ SA sc ss, e = .returned (.slice SA (List.length ss) sc) ∧ StAt w w' SA sc ss zs zs.length ∧ StIs zs 0 0 0 ss ∧ (Cst zs → H16 ss)

set_option maxRecDepth 100000 in
set_option maxHeartbeats 8000000 in
theorem steps_any (A : Option Addr) (n c : Nat) (zs : List Int) (w : World) (hs : Ints .i64 w A n zs) (hz : ∀ z ∈ zs, 0 ≤ z ∧ z ≤ 15) (hn5 : 5 ≤ n) (hn : n ≤ 400) :
    Calls Tryd.prog 79 #[.slice A n c] w (StepsPost w zs) := by
  have HS := Lib.hid hs
  have HZ := Lib.hid hz
  have HL := hs.len
  clear hs hz
  go_enter Tryd.func79, Tryd.ntmps79
  go_wp2
  go_loopw [3, 4] (fun vo vi wr => ∃ (i : Nat) (SA : Option Addr) (sc : Nat) (ss : List Step), i ≤ n ∧ vi = .int .i64 i ∧ vo = .slice SA ss.length sc ∧ Hid (StAt w wr SA sc ss zs i) ∧ Hid (StTo zs 0 0 i ss) ∧ Hid (Cst zs → i = 0 ∨ H16 ss)) (fun _ vi _ => n - (intOf vi).toNat)
  case atStart => exact ⟨0, none, 0, [], by omega, rfl, rfl, ⟨Own.nil _ _ _ _, trivial, rfl, Upd.refl _ _⟩, StTo.start zs, fun _ => Or.inl rfl⟩
  case round =>
    obtain ⟨i, SA, sc, ss, hi, rfl, rfl, HT, HTO, HC⟩ := hrel
    by_cases hlt : i < n
    · obtain ⟨v, HV, cv0⟩ := HS.out.int hlt
      have hvb := HZ.out v (List.mem_of_getElem? HV.out)
      have HVD : Hid (zs.getD i 0 = v) := by show _ = _; rw [List.getD, HV.out]; rfl
      have hupd := HT.out.upd
      have cv := ((HS.out.upd hupd (by simp)).cell HV.out)
      have HSR := Lib.hid (HS.out.upd hupd (by simp))
      have iv := HS.out.index el_int c .i64 i hlt
      have HSZ : Hid (w.heap.size ≤ wr.heap.size) := hupd.size
      clear cv0 hupd HV
      go_upto_block 2 with (fail)
      go_cut [5] from 12 to 32 (fun v5 wx => ∃ k m : Nat, 1 ≤ k ∧ i + k ≤ n ∧ v5 = .int .i64 k ∧ wx = wr.drewN m ∧ Hid (∀ j, j < k → zs.getD (i + j) 0 = v) ∧ Hid (RunIs zs i k) ∧ Hid (Cst zs → (i = 0 ∧ i + k = n) ∨ H16 ss))
      case first =>
        go_wp2_with fail
        go_loopw [5] (fun v5 wx => ∃ k m : Nat, 1 ≤ k ∧ i + k ≤ n ∧ v5 = .int .i64 k ∧ wx = wr.drewN m ∧ Hid (∀ j, j < k → zs.getD (i + j) 0 = v)) (fun v5 _ => n - (intOf v5).toNat)
        case atStart => exact ⟨1, 0, by omega, by omega, rfl, rfl, one_eq HVD.out⟩
        case round =>
          obtain ⟨k, m, hk1, hk2, rfl, rfl, HE⟩ := hrel
          have wik : IntKind.i64.wrap ((i : Int) + k) = (i : Int) + k := by rw [IntKind.wrap_i64]; omega
          by_cases hik : i + k < n
          · have d1 : decide ((i : Int) + k < n) = true := by simp; omega
            obtain ⟨u, HU, cu⟩ := HSR.out.int (i := i + k) hik
            have iu := HS.out.indexI el_int c .i64 ((i : Int) + k) (i + k) (by omega) hik
            have HUD : Hid (zs.getD (i + k) 0 = u) := by show _ = _; rw [List.getD, HU.out]; rfl
            by_cases huv : u = v
            · subst huv
              go_wp2
              go_quiet (fail)
              clear wik
              go_wp2
              go_roundw
              case rel =>
                refine ⟨k + 1, m + nq, by omega, by omega, by go_num, by first | rfl | rw [World.drewN_drewN], fun j hj => ?_⟩
                by_cases hjk : j < k
                · exact HE.out j hjk
                · obtain rfl : j = k := by omega
                  exact HUD.out
              case measure => simp [intOf]; omega
            · have d2 : (u == v) = false := by simpa using huv
              have HCI : Hid (Cst zs → (i = 0 ∧ i + k = n) ∨ H16 ss) := fun ⟨a, _, ha⟩ => by
                have h1 := ha u (List.mem_of_getElem? HU.out)
                have h2 : v = a := by
                  obtain ⟨x, hx, _⟩ := HS.out.int hlt
                  have := HVD.out
                  rw [List.getD, hx.out] at this
                  exact this.symm.trans (ha x (List.mem_of_getElem? hx.out))
                exact absurd (h1.trans h2.symm) huv
              have HRN : Hid (RunIs zs i k) := ⟨hk1, by rw [HL.out]; exact hk2, fun j hj => by rw [HE.out j hj, HVD.out], fun _ => by rw [HUD.out, HVD.out]; exact huv⟩
              clear huv
              go_wp2
              go_quiet (fail)
              clear wik
              go_wp2
              go_meet
              case rel => exact ⟨k, m + nq, hk1, hk2, rfl, by first | rfl | rw [World.drewN_drewN], HE.out, HRN.out, HCI.out⟩
          · have hik2 : i + k = n := by omega
            have HIK := Lib.hid hik2
            have HRN : Hid (RunIs zs i k) := ⟨hk1, by rw [HL.out]; exact hk2, fun j hj => by rw [HE.out j hj, HVD.out], fun h => by rw [HL.out] at h; omega⟩
            have d1 : decide ((i : Int) + k < n) = false := by simp; omega
            clear hik2
            go_wp2
            go_quiet (fail)
            clear wik
            go_wp2
            go_meet
            case rel =>
              refine ⟨k, m + nq, hk1, hk2, rfl, by first | rfl | rw [World.drewN_drewN], HE.out, HRN.out, fun h => ?_⟩
              rcases HC.out h with h1 | h1
              · exact Or.inl ⟨h1, HIK.out⟩
              · exact Or.inr h1
      case rest =>
        obtain ⟨k, m, hk1, hk2, rfl, rfl, HE, HRN, HCI⟩ := hcut
        have hiz : i < zs.length := by rw [HL.out]; exact hlt
        have HTQ : Hid (StAt w (wr.drewN m) SA sc ss zs i) := HT.out.drewN m
        have HSZQ : Hid (w.heap.size ≤ (wr.drewN m).heap.size) := HSZ.out
        have cl : (wr.drewN m).cell? ⟨bl A, ofs A + (i + k - 1), none⟩ = some (.int .i64 v) := by
          obtain ⟨y, hy, hc⟩ := (HSR.out.drewN m).int (i := i + k - 1) (by omega)
          have h1 := HE.out (k - 1) (by omega)
          rw [show i + (k - 1) = i + k - 1 from by omega, List.getD, hy.out] at h1
          rw [hc, show y = v from h1]
        have il := HS.out.indexI el_int c .i64 ((i : Int) + k - 1) (i + k - 1) (by omega) (by omega)
        have HEND : Hid (i + k ≤ zs.length) := by show _ ≤ _; rw [HL.out]; exact hk2
        clear HT HC cv HSR HSZ iv
        generalize wr.drewN m = wq at HTQ HSZQ cl ⊢
        by_cases hv0 : v = 0
        · subst hv0
          have HNC : Hid (Cst zs → False) := fun ⟨a, ha0, ha⟩ => by
            obtain ⟨x, hx, _⟩ := HS.out.int hlt
            have := HVD.out
            rw [List.getD, hx.out] at this
            exact ha0 ((ha x (List.mem_of_getElem? hx.out)).symm.trans this)
          have HTZ : Hid (StTo zs 0 k (i + k) ss) := HTO.out.zero hiz HRN.out HVD.out
          clear HCI HVD HTO HRN hiz
          go_wp2
          go_loopw [3, 5] (fun vo vq wy => ∃ (q : Nat) (SB : Option Addr) (sb : Nat) (tt : List Step), q ≤ k ∧ vq = .int .i64 q ∧ vo = .slice SB tt.length sb ∧ Hid (StAt w wy SB sb tt zs (i + k - q)) ∧ Hid (StTo zs 0 q (i + k) tt)) (fun _ vq _ => (intOf vq).toNat)
          case atStart => exact ⟨k, SA, sc, ss, Nat.le_refl _, rfl, rfl, by rw [Nat.add_sub_cancel]; exact HTQ, HTZ⟩
          case round =>
            clear HTQ HTZ HSZQ cl il
            obtain ⟨q, SB, sb, tt, hqk, rfl, rfl, HX, HXT⟩ := hrel
            have hsl : tt.length ≤ 400 := by have := HX.out.len; omega
            have HBZ : Hid (w.heap.size ≤ wr.heap.size) := HX.out.upd.size
            by_cases hq0 : 0 < q
            · by_cases h11 : 11 ≤ q
              · by_cases h138 : q ≤ 138
                · have e0 : decide ((0 : Int) < q) = true := by simp; omega
                  have e11 : decide ((11 : Int) ≤ q) = true := by simp; omega
                  have m1 : (q : Int) ≤ 138 := by omega
                  go_wp2_with (at_builtin; refine wpList_app rfl rfl el_step rfl (HX.out.own.alloc _) rfl (Seg.tri wr _ _ _ _) (by simp [Value.oneCell']) (by simp only [maxLen]; omega) (by omega) (by have := HBZ.out; simp; omega) ?_; intro SC sc2 w2 hown hu hfr; have HY := Lib.hid (HX.out.push (x := (18, (q : Int) - 11, 7)) (step_18 (k := q) (by omega) (by omega) rfl) (fun j hj => by rw [show i + k - q + j = i + (k - q + j) from by omega]; exact HE.out _ (by omega)) (by have := HEND.out; omega) hown hu); clear hown hu hfr)
                  go_roundw
                  case rel => exact ⟨q - q, SC, sc2, tt ++ [(18, (q : Int) - 11, 7)], by omega, by simp, by rw [List.length_append]; rfl, by rw [show i + k - (q - q) = i + k - q + q from by omega]; exact HY, HXT.out.emit hq0 (em18a h11 h138)⟩
                  case measure => simp [intOf]; omega
                · have e0 : decide ((0 : Int) < q) = true := by simp; omega
                  have e11 : decide ((11 : Int) ≤ q) = true := by simp; omega
                  have m1 : (138 : Int) < q := by omega
                  go_wp2_with (at_builtin; refine wpList_app rfl rfl el_step rfl (HX.out.own.alloc _) rfl (Seg.tri wr _ _ _ _) (by simp [Value.oneCell']) (by simp only [maxLen]; omega) (by omega) (by have := HBZ.out; simp; omega) ?_; intro SC sc2 w2 hown hu hfr; have HY := Lib.hid (HX.out.push (x := (18, 127, 7)) (step_18 (k := 138) (by omega) (by omega) (by decide)) (fun j hj => by rw [show i + k - q + j = i + (k - q + j) from by omega]; exact HE.out _ (by omega)) (by have := HEND.out; omega) hown hu); clear hown hu hfr)
                  go_roundw
                  case rel => exact ⟨q - 138, SC, sc2, tt ++ [(18, 127, 7)], by omega, by rw [show ((q - 138 : Nat) : Int) = (q : Int) - 138 from by omega], by rw [List.length_append]; rfl, by rw [show i + k - (q - 138) = i + k - q + 138 from by omega]; exact HY, HXT.out.emit hq0 (em18b h138)⟩
                  case measure => simp [intOf]; omega
              · by_cases h3 : 3 ≤ q
                · have e0 : decide ((0 : Int) < q) = true := by simp; omega
                  have e11 : decide ((11 : Int) ≤ q) = false := by simp; omega
                  have e3 : decide ((3 : Int) ≤ q) = true := by simp; omega
                  go_wp2_with (at_builtin; refine wpList_app rfl rfl el_step rfl (HX.out.own.alloc _) rfl (Seg.tri wr _ _ _ _) (by simp [Value.oneCell']) (by simp only [maxLen]; omega) (by omega) (by have := HBZ.out; simp; omega) ?_; intro SC sc2 w2 hown hu hfr; have HY := Lib.hid (HX.out.push (x := (17, (q : Int) - 3, 3)) (step_17 (k := q) (by omega) (by omega) rfl) (fun j hj => by rw [show i + k - q + j = i + (k - q + j) from by omega]; exact HE.out _ (by omega)) (by have := HEND.out; omega) hown hu); clear hown hu hfr)
                  go_roundw
                  case rel => exact ⟨q - q, SC, sc2, tt ++ [(17, (q : Int) - 3, 3)], by omega, by simp, by rw [List.length_append]; rfl, by rw [show i + k - (q - q) = i + k - q + q from by omega]; exact HY, HXT.out.emit hq0 (em17 h11 h3)⟩
                  case measure => simp [intOf]; omega
                · have e0 : decide ((0 : Int) < q) = true := by simp; omega
                  have e11 : decide ((11 : Int) ≤ q) = false := by simp; omega
                  have e3 : decide ((3 : Int) ≤ q) = false := by simp; omega
                  go_wp2_with (at_builtin; refine wpList_app rfl rfl el_step rfl (HX.out.own.alloc _) rfl (Seg.tri wr _ _ _ _) (by simp [Value.oneCell']) (by simp only [maxLen]; omega) (by omega) (by have := HBZ.out; simp; omega) ?_; intro SC sc2 w2 hown hu hfr; have HY := Lib.hid (HX.out.push (x := (0, 0, 0)) (step_lit (v := 0) (by omega) (by omega)) (fun j hj => by rw [show i + k - q + j = i + (k - q + j) from by omega]; exact HE.out _ (by omega)) (by have := HEND.out; omega) hown hu); clear hown hu hfr)
                  go_roundw
                  case rel => exact ⟨q - 1, SC, sc2, tt ++ [(0, 0, 0)], by omega, by rw [show ((q - 1 : Nat) : Int) = (q : Int) - 1 from by omega], by rw [List.length_append]; rfl, by rw [show i + k - (q - 1) = i + k - q + 1 from by omega]; exact HY, HXT.out.emit hq0 (emL0 h3)⟩
                  case measure => simp [intOf]; omega
            · obtain rfl : q = 0 := by omega
              go_wp2
              go_roundw
              case rel => exact ⟨i + k, SB, sb, tt, hk2, by go_num, rfl, HX, HXT, fun h => (HNC.out h).elim⟩
              case measure => simp [intOf]; omega
        · have d0 : (v != 0) = true := by simp [hv0]
          have d0' : (v == 0) = false := by simp [hv0]
          have hv15 := hvb.2
          have hv00 := hvb.1
          have hsl0 : ss.length ≤ 400 := by have := HTQ.out.len; omega
          have HV0 := Lib.hid hv0
          have HTZ : Hid (StTo zs v (k - 1) (i + k) (ss ++ [(v, 0, 0)])) := HTO.out.lit hiz HRN.out HVD.out hv0
          clear hv0 HTO HRN hiz
          go_wp2_with (at_builtin; refine wpList_app rfl rfl el_step rfl (HTQ.out.own.alloc _) rfl (Seg.tri wq _ _ _ _) (by simp [Value.oneCell']) (by simp only [maxLen]; omega) (by omega) (by have := HSZQ.out; simp; omega) ?_; intro SA1 sc1 w1 hown hu hfr; have HT1 := Lib.hid (HTQ.out.push (x := (v, 0, 0)) (step_lit hv00 hv15) (one_eq HVD.out) (by have := HEND.out; omega) hown hu); clear hown hu hfr)
          go_loopw [3, 5] (fun vo vq wy => ∃ (q : Nat) (SB : Option Addr) (sb : Nat) (tt : List Step), q + 1 ≤ k ∧ vq = .int .i64 q ∧ vo = .slice SB tt.length sb ∧ Hid (StAt w wy SB sb tt zs (i + k - q)) ∧ Hid (StTo zs v q (i + k) tt) ∧ Hid (Cst zs → (i = 0 ∧ i + k = n ∧ q + 1 = k) ∨ H16 tt)) (fun _ vq _ => (intOf vq).toNat)
          case atStart =>
            refine ⟨k - 1, SA1, sc1, ss ++ [(v, 0, 0)], by omega, by rw [show ((k - 1 : Nat) : Int) = (k : Int) - 1 from by omega], by rw [List.length_append]; rfl, by rw [show i + k - (k - 1) = i + 1 from by omega]; exact HT1, HTZ, fun h => ?_⟩
            rcases HCI.out h with h1 | h1
            · exact Or.inl ⟨h1.1, h1.2, by omega⟩
            · exact Or.inr (h1.snoc _)
          case round =>
            clear HTQ HTZ HSZQ HT1 cl il HCI
            obtain ⟨q, SB, sb, tt, hqk, rfl, rfl, HX, HXT, HCX⟩ := hrel
            have hsl : tt.length ≤ 400 := by have := HX.out.len; omega
            have HBZ : Hid (w.heap.size ≤ wr.heap.size) := HX.out.upd.size
            have HLAST : Hid ((zs.take (i + k - q)).getLastD 0 = v ∧ zs.take (i + k - q) ≠ []) := by
              have h1 := take_last (zs := zs) (a := i + k - q) (by omega) (by have := HEND.out; omega)
              refine ⟨?_, h1.2⟩
              rw [h1.1, show i + k - q - 1 = i + (k - q - 1) from by omega]
              exact HE.out _ (by omega)
            by_cases hq0 : 0 < q
            · by_cases h3 : 3 ≤ q
              · by_cases h6 : q ≤ 6
                · have e0 : decide ((0 : Int) < q) = true := by simp; omega
                  have e3 : decide ((3 : Int) ≤ q) = true := by simp; omega
                  have m1 : (q : Int) ≤ 6 := by omega
                  go_wp2_with (at_builtin; refine wpList_app rfl rfl el_step rfl (HX.out.own.alloc _) rfl (Seg.tri wr _ _ _ _) (by simp [Value.oneCell']) (by simp only [maxLen]; omega) (by omega) (by have := HBZ.out; simp; omega) ?_; intro SC sc2 w2 hown hu hfr; have HY := Lib.hid (HX.out.push (x := (16, (q : Int) - 3, 2)) (step_16 HLAST.out.1 HLAST.out.2 (k := q) (by omega) (by omega) rfl) (fun j hj => by rw [show i + k - q + j = i + (k - q + j) from by omega]; exact HE.out _ (by omega)) (by have := HEND.out; omega) hown hu); clear hown hu hfr)
                  go_roundw
                  case rel => exact ⟨q - q, SC, sc2, tt ++ [(16, (q : Int) - 3, 2)], by omega, by simp, by rw [List.length_append]; rfl, by rw [show i + k - (q - q) = i + k - q + q from by omega]; exact HY, HXT.out.emit hq0 (em16a HV0.out h3 h6), fun _ => Or.inr ⟨(16, (q : Int) - 3, 2), by simp, rfl⟩⟩
                  case measure => simp [intOf]; omega
                · have e0 : decide ((0 : Int) < q) = true := by simp; omega
                  have e3 : decide ((3 : Int) ≤ q) = true := by simp; omega
                  have m1 : (6 : Int) < q := by omega
                  go_wp2_with (at_builtin; refine wpList_app rfl rfl el_step rfl (HX.out.own.alloc _) rfl (Seg.tri wr _ _ _ _) (by simp [Value.oneCell']) (by simp only [maxLen]; omega) (by omega) (by have := HBZ.out; simp; omega) ?_; intro SC sc2 w2 hown hu hfr; have HY := Lib.hid (HX.out.push (x := (16, 3, 2)) (step_16 HLAST.out.1 HLAST.out.2 (k := 6) (by omega) (by omega) (by decide)) (fun j hj => by rw [show i + k - q + j = i + (k - q + j) from by omega]; exact HE.out _ (by omega)) (by have := HEND.out; omega) hown hu); clear hown hu hfr)
                  go_roundw
                  case rel => exact ⟨q - 6, SC, sc2, tt ++ [(16, 3, 2)], by omega, by rw [show ((q - 6 : Nat) : Int) = (q : Int) - 6 from by omega], by rw [List.length_append]; rfl, by rw [show i + k - (q - 6) = i + k - q + 6 from by omega]; exact HY, HXT.out.emit hq0 (em16b HV0.out h6), fun _ => Or.inr ⟨(16, 3, 2), by simp, rfl⟩⟩
                  case measure => simp [intOf]; omega
              · have e0 : decide ((0 : Int) < q) = true := by simp; omega
                have e3 : decide ((3 : Int) ≤ q) = false := by simp; omega
                go_wp2_with (at_builtin; refine wpList_app rfl rfl el_step rfl (HX.out.own.alloc _) rfl (Seg.tri wr _ _ _ _) (by simp [Value.oneCell']) (by simp only [maxLen]; omega) (by omega) (by have := HBZ.out; simp; omega) ?_; intro SC sc2 w2 hown hu hfr; have HY := Lib.hid (HX.out.push (x := (v, 0, 0)) (step_lit hv00 hv15) (fun j hj => by rw [show i + k - q + j = i + (k - q + j) from by omega]; exact HE.out _ (by omega)) (by have := HEND.out; omega) hown hu); clear hown hu hfr)
                go_roundw
                case rel => exact ⟨q - 1, SC, sc2, tt ++ [(v, 0, 0)], by omega, by rw [show ((q - 1 : Nat) : Int) = (q : Int) - 1 from by omega], by rw [List.length_append]; rfl, by rw [show i + k - (q - 1) = i + k - q + 1 from by omega]; exact HY, HXT.out.emit hq0 (emL HV0.out h3), fun h => (by rcases HCX.out h with h1 | h1; omega; exact Or.inr (h1.snoc _))⟩
                case measure => simp [intOf]; omega
            · obtain rfl : q = 0 := by omega
              go_wp2
              go_roundw
              case rel =>
                refine ⟨i + k, SB, sb, tt, hk2, by go_num, rfl, HX, HXT.out.any, fun h => ?_⟩
                rcases HCX.out h with h1 | h1
                · omega
                · exact Or.inr h1
              case measure => simp [intOf]; omega
    · obtain rfl : i = n := by omega
      go_wp2
      go_ret
      refine ⟨SA, sc, ss, rfl, by rw [HL.out]; exact HT.out, (show StTo zs 0 0 zs.length ss by rw [HL.out]; exact HTO.out).done, fun h => ?_⟩
      rcases HC.out h with h1 | h1
      · omega
      · exact h1

end Go.Proofs.YtolcdlopgbgilaaDoor

/-! Text DefK. -/
namespace Go.Proofs.YtolcdlopgbgilaaDoor
open Go.RowKit Go.Dray

/-- A writer that has come from the world w to wr. -/
structure WAt (w wr : World) (B gw : Nat) (WA WB : Option Addr) (bits : List Bool) : Prop where
  wri : Wr wr B gw WB bits
  upd : Upd [some gw, ob WA] w wr
  fresh : Fresh w WA WB
  bw : B ≤ w.heap.size
/-- A slice that is apart from the writer. -/
def Apart (gw : Nat) (WA : Option Addr) (A : Option Addr) (n : Nat) : Prop := 0 < n → bl A ≠ gw ∧ some (bl A) ≠ ob WA

theorem Wr.lt {w : World} {B g : Nat} {A : Option Addr} {bs : List Bool} (h : Wr w B g A bs) : g < w.heap.size := by
  obtain ⟨n, c, hb, _⟩ := h
  exact hb.lt
section
variable {w wr w2 : World} {B gw : Nat} {WA WB WC : Option Addr} {bits bits2 : List Bool}
theorem WAt.start (h : Wr w B gw WA bits) (hB : B ≤ w.heap.size) : WAt w w B gw WA WA bits := ⟨h, Upd.refl _ _, fun _ hg => Or.inl hg, hB⟩
theorem WAt.next (h : WAt w wr B gw WA WB bits) (hw : Wr w2 B gw WC bits2) (hv : Upd [some gw, ob WB] wr w2) (hf : Fresh wr WB WC) : WAt w w2 B gw WA WC bits2 := by
  refine ⟨hw, h.upd.then hv fun b hb => ?_, fun g hg => ?_, h.bw⟩
  · simp at hb
    rcases hb with rfl | hb
    · left; simp
    · rcases h.fresh b hb.symm with h1 | h1
      · left; simp [h1]
      · exact Or.inr h1
  · rcases hf g hg with h1 | h1
    · exact h.fresh g h1
    · right; have := h.upd.size; omega
theorem WAt.calm (h : WAt w wr B gw WA WB bits) (hu : Upd [] wr w2) : WAt w w2 B gw WA WB bits := ⟨h.wri.upd hu (by simp) (by simp), h.upd.trans (hu.mono (by simp)), h.fresh, h.bw⟩
theorem WAt.ints (h : WAt w wr B gw WA WB bits) {kd : IntKind} {A : Option Addr} {n : Nat} {zs : List Int} (hi : Ints kd w A n zs) (ha : Apart gw WA A n) : Ints kd wr A n zs := hi.upd h.upd fun hp => by simp; exact ha hp
theorem WAt.seg (h : WAt w wr B gw WA WB bits) {sz : Nat} (hsz : 0 < sz) {A : Option Addr} {n : Nat} {xs : List Value} (hi : Seg w sz A n xs) (ha : Apart gw WA A n) : Seg wr sz A n xs := hi.upd h.upd hsz fun hp => by simp; exact ha hp
theorem WAt.blk (h : WAt w wr B gw WA WB bits) {g : Nat} {t : TypeId} {cs : Array Value} (hb : Blk wr g t cs) (hv : Upd [some gw, ob WB] wr w2) (h1 : t ≠ 5) (h2 : t ≠ 107) : Blk w2 g t cs := Blk.updWr hb h.wri hv h1 h2
end

/-- What is written by one step. -/
def StepWr (w wr : World) (B gw : Nat) (WA WB : Option Addr) (bits : List Bool) (e : Ending) (w' : World) : Prop := e = .returned (.tuple #[]) ∧ ∃ WC, WAt w w' B gw WA WC bits ∧ Upd [some gw, ob WB] wr w'

theorem code_at {w wr : World} {B gw : Nat} {WA WB : Option Addr} {bits : List Bool} (h : WAt w wr B gw WA WB bits) (hl : bits.length ≤ 100000000) {zs : List Int} {s : Nat} {cv lv : Int} (hcv : cv = codeOf zs s) (hlv : zs.getD s 0 = lv) (h0 : 0 ≤ lv) (h15 : lv ≤ 15) :
    Calls Tryd.prog 72 #[.pointer (some ⟨gw, 0, none⟩), .int .i64 cv, .int .i64 lv] wr (StepWr w wr B gw WA WB (bits ++ rowOf zs s)) := by
  refine (code_any wr B gw WB bits cv lv h0 h15 (by omega) (by have := h.bw; have := h.upd.size; omega) h.wri).mono ?_
  rintro e w' ⟨rfl, WC, hw, hv, hf⟩
  refine ⟨rfl, WC, ?_, hv⟩
  have := h.next hw hv hf
  rw [hcv, ← hlv] at this
  exact this
theorem put_at {w wr : World} {B gw : Nat} {WA WB : Option Addr} {bits : List Bool} (h : WAt w wr B gw WA WB bits) (hl : bits.length ≤ 100000000) (v m : Int) (h0 : 0 ≤ m) (h24 : m ≤ 24) :
    Calls Tryd.prog 37 #[.pointer (some ⟨gw, 0, none⟩), .int .i64 v, .int .i64 m] wr (StepWr w wr B gw WA WB (bits ++ digits v m.toNat)) := by
  refine (put_any wr B gw WB bits v m h0 h24 (by omega) (by have := h.bw; have := h.upd.size; omega) h.wri).mono ?_
  rintro e w' ⟨rfl, WC, hw, hv, hf⟩
  exact ⟨rfl, WC, h.next hw hv hf, hv⟩

theorem pieceBits_len {lz dz : List Int} {x : Piece} (hb : ∀ z ∈ lz, 0 ≤ z ∧ z ≤ 15) (hd : ∀ z ∈ dz, 0 ≤ z ∧ z ≤ 15) (hx : (x.2 = 0 ∧ 0 ≤ x.1 ∧ x.1 ≤ 255) ∨ (3 ≤ x.1 ∧ x.1 ≤ 258 ∧ 1 ≤ x.2 ∧ x.2 ≤ 32768)) : (pieceBits lz dz x).length ≤ 60 := by
  have hr : ∀ (zs : List Int) (t : Nat), (∀ z ∈ zs, 0 ≤ z ∧ z ≤ 15) → (rowOf zs t).length ≤ 15 := fun zs t h => by
    rw [rowOf_len]
    by_cases ht : t < zs.length
    · rw [List.getD, List.getElem?_eq_getElem ht]
      have := h zs[t] (List.getElem_mem ht)
      show (zs[t]).toNat ≤ 15
      omega
    · rw [List.getD, List.getElem?_eq_none (by omega)]; simp
  unfold pieceBits
  rcases hx with ⟨h0, _⟩ | ⟨h1, h2, h3, h4⟩
  · rw [if_pos h0]
    have := hr lz x.1.toNat hb
    omega
  · rw [if_neg (by omega)]
    have a := hr lz (lsym x.1).1.toNat hb
    have b := hr dz (dsym x.2).1.toNat hd
    have c := lsym_bd h1 h2
    have d := (dsym_ok h3 h4).n13
    simp only [List.length_append, digits_len]
    omega
theorem piecesBits_len {lz dz : List Int} (hb : ∀ z ∈ lz, 0 ≤ z ∧ z ≤ 15) (hd : ∀ z ∈ dz, 0 ≤ z ∧ z ≤ 15) (ps : List Piece) (hx : ∀ x ∈ ps, (x.2 = 0 ∧ 0 ≤ x.1 ∧ x.1 ≤ 255) ∨ (3 ≤ x.1 ∧ x.1 ≤ 258 ∧ 1 ≤ x.2 ∧ x.2 ≤ 32768)) : (piecesBits lz dz ps).length ≤ 60 * ps.length := by
  induction ps with
  | nil => simp [piecesBits]
  | cons x ps ih =>
    have e : piecesBits lz dz (x :: ps) = pieceBits lz dz x ++ piecesBits lz dz ps := by simp [piecesBits]
    have h1 := pieceBits_len hb hd (hx x (by simp))
    have h2 := ih fun y hy => hx y (by simp [hy])
    rw [e, List.length_append, List.length_cons]
    omega

/-- The codes that Codes hands back read as the rows, and are apart from a writer. -/
theorem codes_apart {w w' : World} {B gw : Nat} {WA : Option Addr} {bits : List Bool} (hw : Wr w B gw WA bits) {C : Option Addr} {n cc : Nat} {xs : List Value} (hown : Own w' w.heap.size 3 1 C n cc xs) : Apart gw WA C n := fun hp => by
  have h1 := hown.obl hp
  have h2 := (hown.base h1).1
  have h3 := hw.lt
  refine ⟨by omega, fun e => ?_⟩
  have := (hw.base e.symm).2
  omega

def WritePost (w : World) (B gw : Nat) (WA : Option Addr) (bits : List Bool) (e : Ending) (w' : World) : Prop := e = .returned (.tuple #[]) ∧ ∃ WB, WAt w w' B gw WA WB bits

set_option maxRecDepth 100000 in
set_option maxHeartbeats 8000000 in
theorem write_any (w : World) (B gw : Nat) (WA : Option Addr) (bits : List Bool) (PA LA DA : Option Addr) (pc ln lc dn dc : Nat) (ps : List Piece) (lz dz : List Int)
    (hw : Wr w B gw WA bits) (hB : B ≤ w.heap.size) (hbl : bits.length ≤ 1000000)
    (hp : Seg w 2 PA ps.length (pcells ps)) (hl : Ints .i64 w LA ln lz) (hd : Ints .i64 w DA dn dz) (ap : Apart gw WA PA ps.length) (al : Apart gw WA LA ln) (ad : Apart gw WA DA dn)
    (hok : PiecesOk ps []) (hpl : ps.length ≤ 3000) (hcl : chk lz = 0) (hcd : chk dz = 0) (hh : ∀ x ∈ ps, PieceHas lz dz x) (h256 : Has lz 256) :
    Calls Tryd.prog 39 #[.pointer (some ⟨gw, 0, none⟩), .slice PA ps.length pc, .slice LA ln lc, .slice DA dn dc] w (WritePost w B gw WA (bits ++ blockBits lz dz ps)) := by
  have HW := Lib.hid hw
  have HP := Lib.hid hp
  have HL := Lib.hid hl
  have HD := Lib.hid hd
  have AP := Lib.hid ap
  have AL := Lib.hid al
  have AD := Lib.hid ad
  have HOK := Lib.hid hok
  have HCL := Lib.hid hcl
  have HCD := Lib.hid hcd
  have HH := Lib.hid hh
  have H256 := Lib.hid h256
  have hLn := hl.len
  have hDn := hd.len
  have hl320 : ln ≤ 320 := by rw [← hLn.out]; exact (chk_zero hcl).1
  have hd320 : dn ≤ 320 := by rw [← hDn.out]; exact (chk_zero hcd).1
  have h256n : 256 < ln := by rw [← hLn.out]; exact h256.1
  obtain ⟨N, hN⟩ : ∃ N, N = ps.length := ⟨_, rfl⟩
  have HN := Lib.hid hN
  rw [← hN] at hpl ⊢
  clear hw hp hl hd ap al ad hok hcl hcd hh h256 hN
  go_enter Tryd.func39, Tryd.ntmps39
  go_wp2_with fail
  refine (codes_ok LA ln lc lz w HL.out HCL.out).mono ?_
  rintro e w1 ⟨C, cc, rfl, hC, hu1⟩
  have AC := Lib.hid (codes_apart HW.out hC)
  have HW1 := Lib.hid (HW.out.upd hu1 (by simp) (by simp))
  have HD1 := Lib.hid (HD.out.upd hu1 (by simp))
  have HC1 := Lib.hid hC
  have HU1 := Lib.hid hu1
  clear hC hu1
  go_wp2_with fail
  refine (codes_ok DA dn dc dz w1 HD1.out HCD.out).mono ?_
  rintro e w2 ⟨E, ec, rfl, hE, hu2⟩
  have AE := Lib.hid (codes_apart HW1.out hE)
  have HU2 : Hid (Upd [] w w2) := HU1.out.trans hu2
  have HW2 : Hid (WAt w2 w2 B gw WA WA bits) := WAt.start (HW1.out.upd hu2 (by simp) (by simp)) (by have := HU2.out.size; omega)
  have HC2 : Hid (Ints .i64 w2 C ln (tab lz.length (codeOf lz))) := (Ints.ofOwn HC1.out).upd hu2 (by simp)
  have HE2 : Hid (Ints .i64 w2 E dn (tab dz.length (codeOf dz))) := Ints.ofOwn hE
  have HL2 := Lib.hid (HL.out.upd HU2.out (by simp))
  have HD2 := Lib.hid (HD.out.upd HU2.out (by simp))
  have HP2 := Lib.hid (HP.out.upd HU2.out (by omega) (by simp))
  clear hE hu2 HC1 HD1 HW1 HU1 HL HD HP HW
  go_wp2
  go_loopw [30] (fun v wr => ∃ (k : Nat) (WB : Option Addr), k ≤ N ∧ v = .int .i64 k ∧ Hid (WAt w2 wr B gw WA WB (bits ++ piecesBits lz dz (ps.take k)))) (fun v _ => N - (intOf v).toNat)
  case atStart => exact ⟨0, WA, by omega, rfl, by simp only [List.take_zero, piecesBits, List.flatMap_nil, List.append_nil]; exact HW2⟩
  case round =>
    clear HW2
    obtain ⟨k, WB, hk, rfl, HT⟩ := hrel
    have HLB : Hid ((bits ++ piecesBits lz dz (ps.take k)).length ≤ 2000000) := by
      have h1 := piecesBits_len (chk_zero HCL.out).2.1 (chk_zero HCD.out).2.1 (ps.take k) fun x hx => PiecesOk.mem HOK.out x (List.mem_of_mem_take hx)
      rw [List.length_take] at h1
      show _ ≤ _
      rw [List.length_append]
      have := HN.out
      omega
    by_cases hlt : k < N
    · have hkp : k < ps.length := by rw [← HN.out]; exact hlt
      obtain ⟨x, hx⟩ : ∃ x, ps[k]? = some x := ⟨_, List.getElem?_eq_getElem hkp⟩
      obtain ⟨hc1, hc2⟩ := pcells_get hx
      have hsw := HT.out.seg (by omega) HP2.out AP.out
      have p0 := hsw.cell _ _ hc1
      have p1 := hsw.cell _ _ hc2
      rw [← Nat.add_assoc] at p1
      have ix := hsw.index el_piece pc .i64 k hkp
      rw [← HN.out] at ix
      have hmem := PiecesOk.mem HOK.out x (List.mem_of_getElem? hx)
      have hhx := HH.out x (List.mem_of_getElem? hx)
      have HBK : Hid (piecesBits lz dz (ps.take (k + 1)) = piecesBits lz dz (ps.take k) ++ pieceBits lz dz x) := by show _ = _; rw [takeP_snoc hx, piecesBits_snoc]
      obtain ⟨X, hX⟩ : ∃ X, X = bits ++ piecesBits lz dz (ps.take k) := ⟨_, rfl⟩
      rw [← hX] at HT HLB
      have HX := Lib.hid hX
      have hxl : X.length ≤ 2000000 := HLB.out
      obtain ⟨x1, x2⟩ := x
      simp only at p0 p1 hmem
      clear hsw hc1 hc2 hkp hx hX HLB
      go_upto_region 5 with (fail)
      obtain ⟨w3, hw3⟩ : ∃ w3 : World, w3 = wr.alloc (.cells #[.int .i32 x1, .int .i32 x2] 113) := ⟨_, rfl⟩
      obtain ⟨g7, hg7⟩ : ∃ g7, g7 = wr.heap.size := ⟨_, rfl⟩
      rw [← hw3, ← hg7]
      have hu3 : Upd [] wr w3 := by rw [hw3]; exact (Upd.refl _ _).alloc _
      have HK3 : Hid (Blk w3 g7 113 #[.int .i32 x1, .int .i32 x2]) := by rw [hw3, hg7]; exact Blk.new _ _ _
      have HT3 := Lib.hid (HT.out.calm hu3)
      clear hu3 hw3 hg7 p0 p1 ix HT
      have e0 := HK3.out.cell 0
      have e1 := HK3.out.cell 1
      simp at e0 e1
      rcases hmem with ⟨rfl, h1, h2⟩ | ⟨h1, h2, h3, h4⟩
      · obtain ⟨s, rfl⟩ := Int.eq_ofNat_of_zero_le h1
        unfold PieceHas at hhx
        rw [if_pos rfl] at hhx
        simp only [Int.toNat_natCast] at hhx
        have HBIT : Hid (pieceBits lz dz ((s : Int), 0) = rowOf lz s) := by show _ = _; unfold pieceBits; rw [if_pos rfl, Int.toNat_natCast]
        have hs : s < ln := by rw [← hLn.out]; exact hhx.1
        obtain ⟨lv, HLV, cl⟩ := (HT3.out.ints HL2.out AL.out).int hs
        obtain ⟨cv, HCV, cc3⟩ := (HT3.out.ints HC2.out AC.out).int hs
        have hlvb := (chk_zero HCL.out).2.1 lv (List.mem_of_getElem? HLV.out)
        have HLD : Hid (lz.getD s 0 = lv) := getD_of HLV.out
        have HCE : Hid (cv = codeOf lz s) := by
          have := HCV.out
          rw [tab_get _ (by rw [hLn.out]; exact hs)] at this
          injection this with this
          exact this.symm
        have il := HL2.out.index el_int lc .i32 s hs
        have ic := HC2.out.index el_int cc .i32 s hs
        have d0 : ((0 : Int) == 0) = true := rfl
        clear HLV HCV h1 h2 hhx
        go_wp2
        go_still_tail 11, (by kernel_rfl)
        change wpList _ _ _ _ _ w3.drew
        have HT4 : Hid (WAt w2 w3.drew B gw WA WB X) := HT3.out.calm ((Upd.refl _ _).drew)
        have cl' : w3.drew.cell? ⟨bl LA, ofs LA + s, none⟩ = some (.int .i64 lv) := cl
        have cc4 : w3.drew.cell? ⟨bl C, ofs C + s, none⟩ = some (.int .i64 cv) := cc3
        have e0' : w3.drew.cell? ⟨g7, 0, none⟩ = some (.int .i32 s) := e0
        generalize w3.drew = w4 at HT4 cl' cc4 e0' ⊢
        clear HT3 HK3 cl cc3 e0 e1
        go_wp2_with fail
        refine (code_at HT4.out (by omega) HCE.out HLD.out hlvb.1 hlvb.2).mono ?_
        rintro e w5 ⟨rfl, WC, hT5, -⟩
        have HT5 : Hid (WAt w2 w5 B gw WA WC (bits ++ piecesBits lz dz (ps.take (k + 1)))) := by show WAt _ _ _ _ _ _ _; rw [HBK.out, HBIT.out, ← List.append_assoc, ← HX.out]; exact hT5
        clear hT5 HT4 cl' cc4 e0'
        go_wp2
        go_roundw
        case rel => exact ⟨k + 1, WC, by omega, by go_num, HT5⟩
        case measure => simp [intOf]; omega
      · obtain ⟨size, rfl⟩ := Int.eq_ofNat_of_zero_le (show 0 ≤ x1 by omega)
        obtain ⟨back, rfl⟩ := Int.eq_ofNat_of_zero_le (show 0 ≤ x2 by omega)
        have d0 : ((back : Int) == 0) = false := by simp; omega
        have hlb := lsym_bd (size := (size : Int)) h1 h2
        have hdb := dsym_ok (back := (back : Int)) h3 h4
        unfold PieceHas at hhx
        rw [if_neg (show ¬ (((size : Int), (back : Int)) : Piece).2 = 0 by simp only; omega)] at hhx
        simp only at hhx
        have HBIT : Hid (pieceBits lz dz ((size : Int), (back : Int)) = rowOf lz (lsym size).1.toNat ++ (digits (lsym size).2.1 (lsym size).2.2 ++ (rowOf dz (dsym back).1.toNat ++ digits (dsym back).2.1 (dsym back).2.2))) := by show _ = _; unfold pieceBits; rw [if_neg (by simp only; omega)]
        obtain ⟨s, hs⟩ : ∃ s : Nat, (s : Int) = (lsym size).1 := ⟨(lsym size).1.toNat, by omega⟩
        obtain ⟨t, ht⟩ : ∃ t : Nat, (t : Int) = (dsym back).1 := ⟨(dsym back).1.toNat, by have := hdb.lo; omega⟩
        have hn5 := hlb.2.2.2.2
        have hn13 := hdb.n13
        have HLS : Hid (∀ W : World, Calls Tryd.prog 73 #[.int .i64 size] W (fun e w' => e = .returned (.tuple #[.int .i64 s, .int .i64 (lsym size).2.1, .int .i64 ((lsym size).2.2 : Nat)]) ∧ ∃ m, w' = W.drewN m)) := fun W => by
          rw [hs]
          exact lengthSymbol_any size (by omega) (by omega) W
        have HDS : Hid (∀ W : World, Calls Tryd.prog 74 #[.int .i64 back] W (fun e w' => e = .returned (.tuple #[.int .i64 t, .int .i64 (dsym back).2.1, .int .i64 ((dsym back).2.2 : Nat)]) ∧ ∃ m, w' = W.drewN m)) := fun W => by
          rw [ht]
          exact distanceSymbol_any back (by omega) (by omega) W
        rw [← hs, ← ht] at hhx HBIT
        simp only [Int.toNat_natCast] at hhx HBIT
        generalize (lsym size).2.1 = lm at HLS HBIT
        generalize (lsym size).2.2 = ly at HLS HBIT hn5
        generalize (dsym back).2.1 = dm at HDS HBIT
        generalize (dsym back).2.2 = dy at HDS HBIT hn13
        have hs2 : s < ln := by rw [← hLn.out]; exact hhx.1.1
        have ht2 : t < dn := by rw [← hDn.out]; exact hhx.2.1
        have hsz2 : size ≤ 258 := by omega
        have hbk2 : back ≤ 32768 := by omega
        clear h1 h2 h3 h4 hlb hdb hs ht hhx
        obtain ⟨lv, HLV, -⟩ := HL2.out.int hs2
        obtain ⟨cv, HCV, -⟩ := HC2.out.int hs2
        obtain ⟨mv, HMV, -⟩ := HD2.out.int ht2
        obtain ⟨ev, HEV, -⟩ := HE2.out.int ht2
        have hlvb := (chk_zero HCL.out).2.1 lv (List.mem_of_getElem? HLV.out)
        have hmvb := (chk_zero HCD.out).2.1 mv (List.mem_of_getElem? HMV.out)
        have HLD : Hid (lz.getD s 0 = lv) := getD_of HLV.out
        have HMD : Hid (dz.getD t 0 = mv) := getD_of HMV.out
        have HCE : Hid (cv = codeOf lz s) := by
          have := HCV.out
          rw [tab_get _ (by rw [hLn.out]; exact hs2)] at this
          injection this with this
          exact this.symm
        have HEE : Hid (ev = codeOf dz t) := by
          have := HEV.out
          rw [tab_get _ (by rw [hDn.out]; exact ht2)] at this
          injection this with this
          exact this.symm
        have il := HL2.out.index el_int lc .i64 s hs2
        have ic := HC2.out.index el_int cc .i64 s hs2
        have im := HD2.out.index el_int dc .i64 t ht2
        have ie := HE2.out.index el_int ec .i64 t ht2
        go_wp2_with fail
        refine (HLS.out _).mono ?_
        rintro e w4 ⟨rfl, m4, rfl⟩
        have HT4 : Hid (WAt w2 (w3.drewN m4) B gw WA WB X) := HT3.out.calm ((Upd.refl _ _).drewN _)
        have HK4 : Hid (Blk (w3.drewN m4) g7 113 #[.int .i32 size, .int .i32 back]) := HK3.out
        generalize w3.drewN m4 = w4 at HT4 HK4 ⊢
        clear HT3 HK3 e0 e1 HLS
        have cl := (HT4.out.ints HL2.out AL.out).cell HLV.out
        have ck := (HT4.out.ints HC2.out AC.out).cell HCV.out
        go_wp2
        go_still_tail 9, (by kernel_rfl)
        change wpList _ _ _ _ _ w4.drew
        have HT5 : Hid (WAt w2 w4.drew B gw WA WB X) := HT4.out.calm ((Upd.refl _ _).drew)
        have HK5 : Hid (Blk w4.drew g7 113 #[.int .i32 size, .int .i32 back]) := HK4.out
        have cl' : w4.drew.cell? ⟨bl LA, ofs LA + s, none⟩ = some (.int .i64 lv) := cl
        have ck' : w4.drew.cell? ⟨bl C, ofs C + s, none⟩ = some (.int .i64 cv) := ck
        generalize w4.drew = w5 at HT5 HK5 cl' ck' ⊢
        clear HT4 HK4 cl ck
        go_wp2_with fail
        refine (code_at HT5.out (by omega) HCE.out HLD.out hlvb.1 hlvb.2).mono ?_
        rintro e w6 ⟨rfl, WC, hT6, hv6⟩
        have HK6 := Lib.hid (HT5.out.blk HK5.out hv6 (by decide) (by decide))
        have HT6 := Lib.hid hT6
        have hrl : (rowOf lz s).length ≤ 15 := by rw [rowOf_len, HLD.out]; omega
        clear hT6 hv6 HT5 HK5 cl' ck'
        go_wp2_with fail
        refine (put_at HT6.out (by rw [List.length_append]; omega) lm ly (by omega) (by omega)).mono ?_
        rintro e w7 ⟨rfl, WD, hT7, hv7⟩
        have HK7 := Lib.hid (HT6.out.blk HK6.out hv7 (by decide) (by decide))
        have HT7 := Lib.hid hT7
        have e1 := HK7.out.cell 1
        simp at e1
        clear hT7 hv7 HT6 HK6
        go_wp2_with fail
        refine (HDS.out _).mono ?_
        rintro e w8 ⟨rfl, m8, rfl⟩
        have HT8 : Hid (WAt w2 (w7.drewN m8) B gw WA WD (X ++ rowOf lz s ++ digits lm (ly : Int).toNat)) := HT7.out.calm ((Upd.refl _ _).drewN _)
        generalize w7.drewN m8 = w8 at HT8 ⊢
        clear HT7 HK7 e1 HDS
        have cl := (HT8.out.ints HD2.out AD.out).cell HMV.out
        have ck := (HT8.out.ints HE2.out AE.out).cell HEV.out
        go_wp2
        go_still_tail 9, (by kernel_rfl)
        change wpList _ _ _ _ _ w8.drew
        have HT9 : Hid (WAt w2 w8.drew B gw WA WD (X ++ rowOf lz s ++ digits lm (ly : Int).toNat)) := HT8.out.calm ((Upd.refl _ _).drew)
        have cl' : w8.drew.cell? ⟨bl DA, ofs DA + t, none⟩ = some (.int .i64 mv) := cl
        have ck' : w8.drew.cell? ⟨bl E, ofs E + t, none⟩ = some (.int .i64 ev) := ck
        generalize w8.drew = w9 at HT9 cl' ck' ⊢
        clear HT8 cl ck
        go_wp2_with fail
        refine (code_at HT9.out (by simp only [List.length_append, digits_len, Int.toNat_natCast]; omega) HEE.out HMD.out hmvb.1 hmvb.2).mono ?_
        rintro e w10 ⟨rfl, WE, hT10, -⟩
        have HT10 := Lib.hid hT10
        have hrd : (rowOf dz t).length ≤ 15 := by rw [rowOf_len, HMD.out]; omega
        clear hT10 HT9 cl' ck'
        go_wp2_with fail
        refine (put_at HT10.out (by simp only [List.length_append, digits_len, Int.toNat_natCast]; omega) dm dy (by omega) (by omega)).mono ?_
        rintro e w11 ⟨rfl, WF, hT11, -⟩
        have HT11 : Hid (WAt w2 w11 B gw WA WF (bits ++ piecesBits lz dz (ps.take (k + 1)))) := by
          show WAt _ _ _ _ _ _ _
          rw [HBK.out, HBIT.out]
          simp only [Int.toNat_natCast, HX.out, List.append_assoc] at hT11
          exact hT11
        clear hT11 HT10
        go_wp2
        go_roundw
        case rel => exact ⟨k + 1, WF, by omega, by go_num, HT11⟩
        case measure => simp [intOf]; omega
    · obtain rfl : k = N := by omega
      obtain ⟨lv, HLV, cl⟩ := (HT.out.ints HL2.out AL.out).int h256n
      obtain ⟨cv, HCV, ck⟩ := (HT.out.ints HC2.out AC.out).int h256n
      have hlvb := (chk_zero HCL.out).2.1 lv (List.mem_of_getElem? HLV.out)
      have HLD : Hid (lz.getD 256 0 = lv) := getD_of HLV.out
      have HCE : Hid (cv = codeOf lz 256) := by
        have := HCV.out
        rw [tab_get _ (by rw [hLn.out]; exact h256n)] at this
        injection this with this
        exact this.symm
      have il : ∀ W : World, (Instr.indexAt 61 (.slice LA ln lc) (.int .i64 256)).run Tryd.prog W = .ok (.pointer (some ⟨bl LA, ofs LA + 256, none⟩)) W := HL2.out.index el_int lc .i64 256 h256n
      have ic : ∀ W : World, (Instr.indexAt 61 (.slice C ln cc) (.int .i64 256)).run Tryd.prog W = .ok (.pointer (some ⟨bl C, ofs C + 256, none⟩)) W := HC2.out.index el_int cc .i64 256 h256n
      have hxl := HLB.out
      clear HLV HCV HLB
      go_wp2
      go_still_tail 7, (by kernel_rfl)
      change wpList _ _ _ _ _ wr.drew
      have HT4 : Hid (WAt w2 wr.drew B gw WA WB (bits ++ piecesBits lz dz (ps.take k))) := HT.out.calm ((Upd.refl _ _).drew)
      have cl' : wr.drew.cell? ⟨bl LA, ofs LA + 256, none⟩ = some (.int .i64 lv) := cl
      have ck' : wr.drew.cell? ⟨bl C, ofs C + 256, none⟩ = some (.int .i64 cv) := ck
      generalize wr.drew = w4 at HT4 cl' ck' ⊢
      clear HT cl ck
      go_wp2_with fail
      refine (code_at HT4.out (by omega) HCE.out HLD.out hlvb.1 hlvb.2).mono ?_
      rintro e w5 ⟨rfl, WC, hT5, -⟩
      have HT5 : Hid (WAt w2 w5 B gw WA WC (bits ++ blockBits lz dz ps)) := by
        show WAt _ _ _ _ _ _ _
        unfold blockBits
        rw [List.take_of_length_le (by rw [← HN.out]; exact Nat.le_refl _), List.append_assoc] at hT5
        exact hT5
      clear hT5 HT4 cl' ck'
      go_wp2
      go_end0
      exact ⟨rfl, WC, ⟨HT5.out.wri, HU2.out.mono (by simp) |>.trans HT5.out.upd, fun b hb => by rcases HT5.out.fresh b hb with h | h; exact Or.inl h; right; have := HU2.out.size; omega, hB⟩⟩

end Go.Proofs.YtolcdlopgbgilaaDoor
