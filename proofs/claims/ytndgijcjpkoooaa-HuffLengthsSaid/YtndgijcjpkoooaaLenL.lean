/- The walk of huff.level. -/
import Derived.Test.YtndgijcjpkoooaaElems
import Derived.Test.YtndgijcjpkoooaaLenP
import Derived.BigRegion
namespace Go.Proofs.Ytndgijcjpkoooaa
open Go.RowKit Go.Dray

theorem el_item : El Try.prog 76 78 (.agg #[.int .i64 0, .bool false]) 2 16 := ⟨Try.underlying76, by kernel_rfl, rfl, by omega⟩

/-- The cells of items. -/
def itemV : List (Int × Bool) → List Value
  | [] => []
  | x :: l => .int .i64 x.1 :: .bool x.2 :: itemV l
theorem itemV_len (l : List (Int × Bool)) : (itemV l).length = l.length * 2 := by
  induction l with
  | nil => rfl
  | cons x l ih => simp only [itemV, List.length_cons, ih]; omega
theorem itemV_app (l m : List (Int × Bool)) : itemV (l ++ m) = itemV l ++ itemV m := by
  induction l with
  | nil => rfl
  | cons x l ih => simp only [List.cons_append, itemV, ih]
theorem itemV_one (l : List (Int × Bool)) : ∀ u ∈ itemV l, u.oneCell' = true := by
  induction l with
  | nil => intro u h; cases h
  | cons x l ih =>
    intro u h
    simp only [itemV, List.mem_cons] at h
    rcases h with rfl | rfl | h
    · rfl
    · rfl
    · exact ih u h
theorem itemV_take (l : List (Int × Bool)) (k : Nat) : (itemV l).take (k * 2) = itemV (l.take k) := by
  induction l generalizing k with
  | nil => simp [itemV]
  | cons x l ih =>
    cases k with
    | zero => simp [itemV]
    | succ k => rw [show (k + 1) * 2 = k * 2 + 1 + 1 from by omega, itemV, List.take_succ_cons, List.take_succ_cons, ih, List.take_succ_cons, itemV]
theorem itemV_get {l : List (Int × Bool)} {i : Nat} {x : Int × Bool} (h : l[i]? = some x) : (itemV l)[i * 2]? = some (.int .i64 x.1) ∧ (itemV l)[i * 2 + 1]? = some (.bool x.2) := by
  induction l generalizing i with
  | nil => simp at h
  | cons y l ih =>
    cases i with
    | zero => simp at h; subst h; simp [itemV]
    | succ i =>
      simp at h
      have := ih h
      rw [show (i + 1) * 2 = i * 2 + 1 + 1 from by omega, show i * 2 + 1 + 1 + 1 = i * 2 + 1 + 1 + 1 from rfl, itemV, List.getElem?_cons_succ, List.getElem?_cons_succ, List.getElem?_cons_succ, List.getElem?_cons_succ]
      exact this

theorem Seg.two (w : World) (a b : Value) (t : TypeId) : Seg (w.alloc (.cells #[a, b] t)) 2 (some ⟨w.heap.size, 0, none⟩) 1 [a, b] :=
  ⟨rfl, fun _ => rfl, fun k u hu => by
    have hb := Blk.new w t #[a, b]
    show (w.alloc _).cell? ⟨w.heap.size, 0 + k, none⟩ = _
    rw [Nat.zero_add, hb.cell]
    simpa using hu⟩

/-- 'make([]T, 0, n)'. -/
theorem wpList_mk0 {P : Program} {w : World} {ops : Array Oper} {rest : List Oper} {o : Oper} {a : Act} {Q : Exit → Act → World → Prop}
    (hg : o.guard = none) {l c : Operand} {t : TypeId} (hop : o.op = Op.makeSlice t l c)
    (B : Nat) {e : TypeId} {z : Value} {sz bytes : Nat} (el : El P t e z sz bytes)
    (n : Nat) {kl kc : IntKind} {C : Int} (hl : a.eval l = .int kl 0) (hc : a.eval c = .int kc C) (hC : C = (n : Int)) (b2 : bytes * n ≤ 281474976710656) (b3 : n ≤ maxLen) (b4 : B ≤ w.heap.size)
    (hK : ∀ A' w', Own w' B e sz A' 0 n [] → Upd [] w w' → ob A' = some w.heap.size → wpList P ops Q rest (a.put o.dst (.slice A' 0 n)) w') :
    wpList P ops Q (o :: rest) a w := by
  obtain ⟨i, hi, hz, hs, hb⟩ := info_get el
  exact wpList_make_own (P := P) w hg l c t hop B e i z sz el.under hi hz hs kl kc C n hl hc hC (by rw [hb]; exact b2) b3 b4 fun w' h1 h2 => hK _ w' h1 ⟨h2.os, h2.tape, h2.output, h2.size, fun k hk _ => h2.block k hk (by simp)⟩ rfl

/-- A slice of items that reads. -/
structure Items (w : World) (A : Option Addr) (n c : Nat) (l : List (Int × Bool)) : Prop where
  seg : Seg w 2 A n (itemV l)
  le : n ≤ c

section
variable {w : World} {A : Option Addr} {n c : Nat} {l : List (Int × Bool)}
theorem Items.len (h : Items w A n c l) : l.length = n := by
  have := h.seg.len
  rw [itemV_len] at this
  omega
theorem Items.upd {L : List (Option Nat)} {w' : World} (h : Items w A n c l) (hu : Upd L w w') (hn : 0 < n → some (bl A) ∉ L) : Items w' A n c l := ⟨h.seg.upd hu (by omega) hn, h.le⟩
theorem Items.ix (h : Items w A n c l) (i : Nat) (v : Int) (hv : v = i) (hi : i < n) : ∀ W : World, (Instr.indexAt 76 (.slice A n c) (.int .i64 v)).run Try.prog W = .ok (.pointer (some ⟨bl A, ofs A + i * 2, none⟩)) W := by
  subst hv
  exact run_index el_item h.seg.at_ c .i64 i hi
theorem Items.cells (h : Items w A n c l) {i : Nat} {x : Int × Bool} (hx : l[i]? = some x) : w.cell? ⟨bl A, ofs A + i * 2, none⟩ = some (.int .i64 x.1) ∧ w.cell? ⟨bl A, ofs A + i * 2 + 1, none⟩ = some (.bool x.2) := by
  have := itemV_get hx
  exact ⟨h.seg.cell _ _ this.1, by have := h.seg.cell _ _ this.2; rwa [← Nat.add_assoc] at this⟩
theorem Items.drop {k : Nat} (h : Items w A n c l) (hk : k ≤ n) : Items w (cutA 2 A c k) (n - k) (c - k) (l.drop k) := by
  refine ⟨?_, by have := h.le; omega⟩
  have := h.seg.cut (lo := k) (hi := n) (c := c) hk (Nat.le_refl _) h.le
  have e : ((itemV l).drop (k * 2)).take ((n - k) * 2) = itemV (l.drop k) := by
    have hl := h.len
    rw [List.take_of_length_le (by rw [List.length_drop, itemV_len]; omega)]
    have e1 : itemV l = itemV (l.take k) ++ itemV (l.drop k) := by rw [← itemV_app, List.take_append_drop]
    rw [e1, List.drop_left' (by rw [itemV_len, List.length_take]; omega)]
  rw [e] at this
  exact this
theorem Items.pre {k : Nat} (h : Items w A n c l) (hk : k ≤ n) : Items w A k c (l.take k) := by
  refine ⟨?_, by have := h.le; omega⟩
  have := h.seg.pre hk
  rw [itemV_take] at this
  exact this
end

def lenV : Value → Nat | .slice _ n _ => n | _ => 0

/-- level hands back a new slice. -/
def LevelPost (S B : List (Int × Bool)) (w : World) (e : Ending) (w' : World) : Prop :=
  ∃ A m c, e = .returned (.slice A m c) ∧ m = (mrg S (prs B)).length ∧ Own w' w.heap.size 78 2 A m c (itemV (mrg S (prs B))) ∧ Upd [] w w'

/-- What is said of memory at a round of level. -/
structure LSt (S B : List (Int × Bool)) (w wr : World) (SA : Option Addr) (sn sc : Nat) (S' : List (Int × Bool)) (P' : List Int) (O : Option Addr) (on oc : Nat) (acc : List (Int × Bool)) : Prop where
  sym : Items w SA sn sc S'
  out : Own wr w.heap.size 78 2 O on oc (itemV acc)
  upd : Upd [] w wr
  bds : ∀ x ∈ S', 0 ≤ x.1 ∧ x.1 ≤ 140737488355328
  all : acc ++ mrg S' P' = mrg S (prs B)
  few : on + sn + P'.length ≤ 2000

theorem prs_cons (a b : Int × Bool) (r : List (Int × Bool)) : prs (a :: b :: r) = (a.1 + b.1) :: prs r := by rw [prs]
theorem prs_short {l : List (Int × Bool)} (h : l.length < 2) : prs l = [] := by
  match l, h with
  | [], _ => rfl
  | [a], _ => rfl

set_option maxRecDepth 100000 in
set_option maxHeartbeats 2000000 in
theorem level_any (SA BA : Option Addr) (sn sc bn bc : Nat) (S B : List (Int × Bool)) (w : World) (hS : Items w SA sn sc S) (hB : Items w BA bn bc B) (hs : sn ≤ 320) (hb : bn ≤ 700)
    (bS : ∀ x ∈ S, 0 ≤ x.1 ∧ x.1 ≤ 140737488355328) (bB : ∀ x ∈ B, 0 ≤ x.1 ∧ x.1 ≤ 140737488355328) :
    Calls Try.prog 41 #[.slice SA sn sc, .slice BA bn bc] w (LevelPost S B w) := by
  have HS := Lib.hid hS
  have HB := Lib.hid hB
  have HBS := Lib.hid bS
  have HBB := Lib.hid bB
  clear hS hB bS bB
  go_enter Try.func41, Try.ntmps41
  go_wp2_with (at_make; refine wpList_mk0 rfl rfl w.heap.size el_item (sn + bn / 2) rfl rfl (by omega) (by omega) (by simp only [maxLen]; omega) (Nat.le_refl _) ?_; intro O1 w1 hown1 hu1 hob1)
  have HL0 : Hid (LSt S B w w1 SA sn sc S (prs B) O1 0 (sn + bn / 2) []) :=
    ⟨HS.out, hown1, hu1, HBS.out, rfl, by rw [prs_len, HB.out.len]; omega⟩
  clear hown1 hu1 hob1
  go_loopw [0, 1, 5] (fun v u o wr => ∃ SA' sn' sc' S' BA' bn' bc' B' O on oc acc, v = .slice SA' sn' sc' ∧ u = .slice BA' bn' bc' ∧ o = .slice O on oc ∧ bn' ≤ 700 ∧ sn' ≤ 320 ∧ on ≤ 2000 ∧ Hid (LSt S B w wr SA' sn' sc' S' (prs B') O on oc acc) ∧ Hid (Items w BA' bn' bc' B' ∧ ∀ x ∈ B', 0 ≤ x.1 ∧ x.1 ≤ 140737488355328))
    (fun _ u _ _ => lenV u)
  case atStart => exact ⟨SA, sn, sc, S, BA, bn, bc, B, O1, 0, _, [], rfl, rfl, rfl, hb, hs, by omega, HL0, ⟨HB.out, HBB.out⟩⟩
  case round =>
    clear HL0 HS HB HBS HBB
    obtain ⟨SA', sn', sc', S', BA', bn', bc', B', O, on, oc, acc, rfl, rfl, rfl, hbn, hsn, hon, HL, HBK⟩ := hrel
    by_cases hlt : 2 ≤ bn'
    · have hd2 : decide ((2 : Int) ≤ bn') = true := by simp; omega
      obtain ⟨x, y, r, HB3⟩ : ∃ x y r, Hid (B' = x :: y :: r) := by
        have := HBK.out.1.len
        match B', this with
        | x :: y :: r, _ => exact ⟨x, y, r, rfl⟩
        | [], h => simp at h; omega
        | [x], h => simp at h; omega
      have hx := HBK.out.2 x (by rw [HB3.out]; simp)
      have hy := HBK.out.2 y (by rw [HB3.out]; simp)
      have hbr := HBK.out.1.upd HL.out.upd (by simp)
      have i0 := HBK.out.1.ix 0 0 rfl (by omega)
      have i1 := HBK.out.1.ix 1 1 rfl (by omega)
      have c0 := (hbr.cells (i := 0) (x := x) (by rw [HB3.out]; rfl)).1
      have c1 := (hbr.cells (i := 1) (x := y) (by rw [HB3.out]; rfl)).1
      rw [Nat.zero_mul, Nat.add_zero] at i0 c0
      rw [Nat.one_mul] at i1 c1
      have hcut := run_cut_l el_item BA' bn' bc' .i64 2 2 rfl hlt
      obtain ⟨p, hp⟩ : ∃ p, p = x.1 + y.1 := ⟨_, rfl⟩
      have hpb : 0 ≤ p ∧ p ≤ 281474976710656 := by omega
      obtain ⟨xc, hxc⟩ : ∃ xc, xc = x.1 := ⟨_, rfl⟩
      obtain ⟨yc, hyc⟩ : ∃ yc, yc = y.1 := ⟨_, rfl⟩
      rw [← hxc] at hx c0
      rw [← hyc] at hy c1
      have HPE : Hid (xc + yc = p) := by show _ = _; omega
      have HPS : Hid (prs B' = p :: prs r) := by show _ = _; rw [HB3.out, prs_cons, hp]
      clear hp hxc hyc
      have c0' : (wr.alloc (.cells #[.int .i64 0, .bool false] 78)).cell? ⟨bl BA', ofs BA', none⟩ = some (.int .i64 xc) := ((Upd.refl [] wr).alloc _).cell c0 (by simp)
      have c1' : (wr.alloc (.cells #[.int .i64 0, .bool false] 78)).cell? ⟨bl BA', ofs BA' + 2, none⟩ = some (.int .i64 yc) := ((Upd.refl [] wr).alloc _).cell c1 (by simp)
      go_wp2
      go_region
      rw [HPE.out]
      obtain ⟨g, hg⟩ : ∃ g, g = wr.heap.size := ⟨_, rfl⟩
      have hul : Upd [] wr (wr.alloc (.cells #[.int .i64 p, .bool false] 78)).drew := ((Upd.refl [] wr).alloc _).drew
      have hbk2 : Blk (wr.alloc (.cells #[.int .i64 p, .bool false] 78)).drew g 78 #[.int .i64 p, .bool false] := by rw [hg]; exact (Blk.new wr _ _).drew
      have hog : ob O ≠ some g := fun h => by have := (HL.out.out.base h).2; omega
      have HL2 : Hid (LSt S B w (wr.alloc (.cells #[.int .i64 p, .bool false] 78)).drew SA' sn' sc' S' (p :: prs r) O on oc acc) := by
        have := HL.out
        rw [HPS.out] at this
        exact ⟨this.sym, this.out.upd hul (by simp), this.upd.trans hul, this.bds, this.all, this.few⟩
      rw [← hg]
      have HGE : Hid (w.heap.size ≤ g) := by have := HL.out.upd.size; show _ ≤ _; omega
      have HBK2 : Hid (Items w (cutA 2 BA' bc' 2) (bn' - 2) (bc' - 2) r ∧ ∀ x ∈ r, 0 ≤ x.1 ∧ x.1 ≤ 140737488355328) := by
        have h1 := HBK.out.1.drop hlt
        have h2 := HBK.out.2
        rw [HB3.out] at h1 h2
        exact ⟨h1, fun x hx => h2 x (by simp [hx])⟩
      have HLG := Lib.hid hog
      have HBG := Lib.hid hbk2
      generalize (wr.alloc (.cells #[.int .i64 p, .bool false] 78)).drew = w2 at HL2 HBG ⊢
      clear hog hbk2 hul hbr c0 c1 c0' c1' i0 i1 hg
      go_wp2
      clear hcut
      obtain ⟨BA2, hBA2⟩ : ∃ BA2, BA2 = cutA 2 BA' bc' 2 := ⟨_, rfl⟩
      rw [← hBA2] at HBK2 ⊢
      clear hBA2 HBK HB3 HPS HL hx hy HPE
      go_loopw [0, 5] (fun v o wr => ∃ SA' sn' sc' S' O on oc acc, v = .slice SA' sn' sc' ∧ o = .slice O on oc ∧ sn' ≤ 320 ∧ on ≤ 2000 ∧ Hid (LSt S B w wr SA' sn' sc' S' (p :: prs r) O on oc acc) ∧ Hid (Blk wr g 78 #[.int .i64 p, .bool false] ∧ ob O ≠ some g)) (fun v _ _ => lenV v)
      case atStart => exact ⟨SA', sn', sc', S', O, on, oc, acc, rfl, rfl, hsn, hon, HL2, ⟨HBG.out, HLG.out⟩⟩
      case round =>
        clear HL2 HBG HLG hsn hon
        obtain ⟨SA3, sn3, sc3, S3, O3, on3, oc3, acc3, rfl, rfl, hsn, hon, HL, HG⟩ := hrel
        have g0 := HG.out.1.cell 0
        have g1 := HG.out.1.cell 1
        simp at g0 g1
        by_cases hp0 : 0 < sn3
        · have hd0 : decide ((0 : Int) < sn3) = true := by simp; omega
          obtain ⟨s, S2, HS2⟩ : ∃ s S2, Hid (S3 = s :: S2) := by
            have := HL.out.sym.len
            match S3, this with
            | s :: S2, _ => exact ⟨s, S2, rfl⟩
            | [], h => simp at h; omega
          have hsb := HL.out.bds s (by rw [HS2.out]; simp)
          have hsr := HL.out.sym.upd HL.out.upd (by simp)
          have i0 := HL.out.sym.ix 0 0 rfl hp0
          have cc := hsr.cells (i := 0) (x := s) (by rw [HS2.out]; rfl)
          rw [Nat.zero_mul, Nat.add_zero] at i0 cc
          obtain ⟨c0, c1⟩ := cc
          have hcut := run_cut_l el_item SA3 sn3 sc3 .i64 1 1 rfl hp0
          obtain ⟨sv, sb⟩ := s
          simp only at hsb c0 c1
          by_cases hle : sv ≤ p
          · have hd1 : decide (sv ≤ p) = true := by simp [hle]
            go_wp2
            go_quiet (fail)
            have C0 : (wr.drewN nq).cell? ⟨bl SA3, ofs SA3, none⟩ = some (.int .i64 sv) := c0
            have C1 : (wr.drewN nq).cell? ⟨bl SA3, ofs SA3 + 1, none⟩ = some (.bool sb) := c1
            have HL2 : Hid (LSt S B w (wr.drewN nq) SA3 sn3 sc3 S3 (p :: prs r) O3 on3 oc3 acc3) := ⟨HL.out.sym, HL.out.out.drewN _, HL.out.upd.drewN _, HL.out.bds, HL.out.all, HL.out.few⟩
            have HG2 : Hid (Blk (wr.drewN nq) g 78 #[.int .i64 p, .bool false]) := HG.out.1.drewN _
            generalize wr.drewN nq = w3 at C0 C1 HL2 HG2 ⊢
            clear c0 c1 g0 g1 hsr
            have hO := HL2.out.out
            have hfew := HL2.out.few
            have hsz := HL2.out.upd.size
            simp only [List.length_cons] at hfew
            go_wp2_with (at_builtin; refine wpList_app rfl rfl el_item rfl (hO.alloc _) rfl (Seg.two _ _ _ _) (by simp [Value.oneCell']) (by simp only [maxLen]; omega) (by omega) (by simp; omega) ?_; intro X3 c3 w4 hown4 hu4 hfr4)
            go_roundw
            case rel =>
              refine ⟨cutA 2 SA3 sc3 1, sn3 - 1, sc3 - 1, S2, X3, on3 + 1, c3, acc3 ++ [(sv, sb)], rfl, rfl, by omega, by omega, ⟨?_, ?_, ?_, ?_, ?_, ?_⟩, ⟨?_, ?_⟩⟩
              · have := HL2.out.sym.drop (k := 1) hp0
                rw [HS2.out] at this
                exact this
              · rw [itemV_app]; exact hown4
              · exact (HL2.out.upd.alloc _).then hu4 (fun b hb => by simp at hb; have := (hO.base hb.symm).1; right; omega)
              · have := HL2.out.bds
                rw [HS2.out] at this
                exact fun x hx => this x (by simp [hx])
              · have := HL2.out.all
                rw [HS2.out, mrg_le hle] at this
                rw [List.append_assoc, ← this]
                rfl
              · have := HL2.out.few; simp only [List.length_cons] at this ⊢; omega
              · exact (HG2.out.alloc _).upd hu4 (by simp; exact fun e => HG.out.2 e.symm)
              · intro h
                rcases hfr4 g h with h' | h'
                · exact HG.out.2 h'
                · have := HG2.out.lt
                  simp at h'
                  omega
            case measure => simp [lenV]; omega
          · have hd1 : decide (sv ≤ p) = false := by simp; omega
            clear c1 hcut
            go_wp2
            go_quiet (fail)
            have HL2 : Hid (LSt S B w (wr.drewN nq) SA3 sn3 sc3 S3 (p :: prs r) O3 on3 oc3 acc3) := ⟨HL.out.sym, HL.out.out.drewN _, HL.out.upd.drewN _, HL.out.bds, HL.out.all, HL.out.few⟩
            have HG2 : Hid (Blk (wr.drewN nq) g 78 #[.int .i64 p, .bool false]) := HG.out.1.drewN _
            generalize wr.drewN nq = w3 at HL2 HG2 ⊢
            have G0 := HG2.out.cell 0
            have G1 := HG2.out.cell 1
            simp at G0 G1
            clear g0 g1
            have hO := HL2.out.out
            have hfew := HL2.out.few
            have hsz := HL2.out.upd.size
            simp only [List.length_cons] at hfew
            go_wp2_with (at_builtin; refine wpList_app rfl rfl el_item rfl (hO.alloc _) rfl (Seg.two _ _ _ _) (by simp [Value.oneCell']) (by simp only [maxLen]; omega) (by omega) (by simp; omega) ?_; intro X3 c3 w4 hown4 hu4 hfr4)
            go_roundw
            case rel =>
              refine ⟨SA3, sn3, sc3, S3, BA2, bn' - 2, bc' - 2, r, X3, on3 + 1, c3, acc3 ++ [(p, false)], rfl, rfl, rfl, by omega, by omega, by omega, ⟨HL2.out.sym, ?_, ?_, HL2.out.bds, ?_, ?_⟩, HBK2⟩
              · rw [itemV_app]; exact hown4
              · exact (HL2.out.upd.alloc _).then hu4 (fun b hb => by simp at hb; have := (hO.base hb.symm).1; right; omega)
              · have := HL2.out.all
                rw [List.append_assoc, ← this]
                rw [HS2.out, mrg_gt (s := (sv, sb)) (by show ¬ sv ≤ p; omega)]; rfl
              · have := HL2.out.few; simp only [List.length_cons] at this; omega
            case measure => simp [lenV]; omega
        · have hd0 : decide ((0 : Int) < sn3) = false := by simp; omega
          have HS3 : Hid (S3 = []) := by
            have := HL.out.sym.len
            exact List.eq_nil_of_length_eq_zero (by omega)
          · skip
            go_wp2
            go_quiet (fail)
            have HL2 : Hid (LSt S B w (wr.drewN nq) SA3 sn3 sc3 S3 (p :: prs r) O3 on3 oc3 acc3) := ⟨HL.out.sym, HL.out.out.drewN _, HL.out.upd.drewN _, HL.out.bds, HL.out.all, HL.out.few⟩
            have HG2 : Hid (Blk (wr.drewN nq) g 78 #[.int .i64 p, .bool false]) := HG.out.1.drewN _
            generalize wr.drewN nq = w3 at HL2 HG2 ⊢
            have G0 := HG2.out.cell 0
            have G1 := HG2.out.cell 1
            simp at G0 G1
            clear g0 g1
            have hO := HL2.out.out
            have hfew := HL2.out.few
            have hsz := HL2.out.upd.size
            simp only [List.length_cons] at hfew
            go_wp2_with (at_builtin; refine wpList_app rfl rfl el_item rfl (hO.alloc _) rfl (Seg.two _ _ _ _) (by simp [Value.oneCell']) (by simp only [maxLen]; omega) (by omega) (by simp; omega) ?_; intro X3 c3 w4 hown4 hu4 hfr4)
            go_roundw
            case rel =>
              refine ⟨SA3, sn3, sc3, S3, BA2, bn' - 2, bc' - 2, r, X3, on3 + 1, c3, acc3 ++ [(p, false)], rfl, rfl, rfl, by omega, by omega, by omega, ⟨HL2.out.sym, ?_, ?_, HL2.out.bds, ?_, ?_⟩, HBK2⟩
              · rw [itemV_app]; exact hown4
              · exact (HL2.out.upd.alloc _).then hu4 (fun b hb => by simp at hb; have := (hO.base hb.symm).1; right; omega)
              · have := HL2.out.all
                rw [List.append_assoc, ← this]
                rw [HS3.out, mrg_nil']; rfl
              · have := HL2.out.few; simp only [List.length_cons] at this; omega
            case measure => simp [lenV]; omega
    · have HPN : Hid (prs B' = []) := prs_short (by rw [HBK.out.1.len]; omega)
      have hO := HL.out.out
      have hsr := HL.out.sym.upd HL.out.upd (by simp)
      have hfew := HL.out.few
      have hsz := HL.out.upd.size
      go_wp2_with (at_builtin; refine wpList_app rfl rfl el_item rfl hO rfl hsr.seg (itemV_one _) (by simp only [maxLen]; omega) (by omega) hsz ?_; intro X3 c3 w4 hown4 hu4 hfr4)
      go_ret
      have hall := HL.out.all
      rw [HPN.out, mrg_nil] at hall
      have h1 := HL.out.sym.len
      have h2 : acc.length = on := by have := hO.len; rw [itemV_len] at this; omega
      refine ⟨X3, on + sn', c3, rfl, ?_, ?_, ?_⟩
      · rw [← hall, List.length_append]; omega
      · rw [← hall, itemV_app]; exact hown4
      · exact HL.out.upd.then hu4 (fun b hb => by simp at hb; have := (hO.base hb.symm).1; right; omega)

end Go.Proofs.Ytndgijcjpkoooaa
