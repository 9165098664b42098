/- Merged by wip/tools/merge.py: Map3 DefQ DefR. -/
import Derived.Stop.BytesEq
import Derived.WideKeyRuns
import Derived.Test.YtolcdlopgbgilaaGreatDoorMz01
import Derived.Test.YtolcdlopgbgilaaGreatDoorMz09
import Derived.Test.YtolcdlopgbgilaaGreatDoorMz10
import Derived.Test.YtolcdlopgbgilaaGreatDoorMz13

/-! Text Map3. -/
namespace Go.Dray
open Go.RowKit

theorem range_eq_ints : ∀ (xs ys : List Int), xs.length = ys.length → ((List.range xs.length).all fun i => xs.getD i 0 == ys.getD i 0) = (xs == ys)
  | [], [], _ => rfl
  | x :: xs, y :: ys, h => by
    have ih := range_eq_ints xs ys (by simpa using h)
    rw [List.length_cons, List.range_succ_eq_map, List.all_cons, List.all_map]
    simp only [List.getD_cons_zero, Function.comp_def, List.getD_cons_succ, ih]
    simp [List.cons_beq_cons]
  | [], _ :: _, h => by simp at h
  | _ :: _, [], h => by simp at h

/-- Bytes as an array's value. -/
def arr (xs : List Int) : Value := .agg (xs.map (Value.int .u8)).toArray

section
variable {P : Program} (w : World)

theorem run_part_byte {e : TypeId} (he : P.underlying e = some (.int .u8)) (xs : List Int) (i : Nat) (hi : i < xs.length) : (part e (xs.map (Value.int .u8)).toArray i).run P w = .ok (.int .u8 (xs.getD i 0)) w := by
  simp [part, isAgg, run_underlying he, List.getD, List.getElem?_eq_getElem hi]

theorem run_equalIn_arr (d : Nat) (t e : TypeId) (n : Nat) (ht : P.underlying t = some (.array n e)) (he : P.underlying e = some (.int .u8)) (hsz : ∀ w, (sizeOf e).run P w = .ok 1 w)
    (xs ys : List Int) (hx : xs.length = n) (hy : ys.length = n) :
    (Op.equalIn (d + 2) t (arr xs) (arr ys)).run P w = .ok (xs == ys) w := by
  unfold arr
  rw [← range_eq_ints xs ys (hx.trans hy.symm), hx, List.range_eq_range', Op.equalIn]
  simp only [Sem.run_bind, run_underlying ht, Result.andThen_ok, hsz, Std.Legacy.Range.forIn_eq_forIn_range', Std.Legacy.Range.size, Nat.sub_zero, Nat.add_sub_cancel, Nat.div_one]
  have hl : ∀ i ∈ List.range' 0 n 1, i < n := fun i hi => by simpa using (List.mem_range'_1.1 hi).2
  generalize List.range' 0 n 1 = l at hl ⊢
  induction l with
  | nil => simp
  | cons i l ih =>
    have hi : i < n := hl i (by simp)
    have px := run_part_byte w he xs (i * 1) (by omega)
    have py := run_part_byte w he ys (i * 1) (by omega)
    rw [Nat.mul_one] at px py
    have pe : (Op.equalIn (d + 1) e (.int .u8 (xs.getD i 0)) (.int .u8 (ys.getD i 0))).run P w = .ok (xs.getD i 0 == ys.getD i 0) w := run_equalIn_int w d e .u8 .u8 _ _ he
    simp only [List.forIn_cons, Sem.run_bind, Nat.mul_one, px, py, pe, Result.andThen_ok, List.all_cons]
    cases hb : (xs.getD i 0 == ys.getD i 0)
    · simp
    · simp only [Bool.not_true, Bool.false_eq_true, if_false, Sem.run_pure, Result.andThen_ok, Bool.true_and]
      have := ih fun j hj => hl j (by simp [hj])
      simpa only [Nat.mul_one] using this

theorem run_checkKey_arr (em : Bool) (d : Nat) (t e : TypeId) (n : Nat) (ht : P.underlying t = some (.array n e)) (he : P.underlying e = some (.int .u8)) (hsz : ∀ w, (sizeOf e).run P w = .ok 1 w)
    (xs : List Int) (hx : xs.length = n) : (Instr.checkKey em (d + 2) t (arr xs)).run P w = .ok () w := by
  unfold arr
  rw [Instr.checkKey]
  simp only [Sem.run_bind, run_underlying ht, Result.andThen_ok, Std.Legacy.Range.forIn_eq_forIn_range', Std.Legacy.Range.size, Nat.sub_zero, Nat.add_sub_cancel, Nat.div_one]
  have hl : ∀ i ∈ List.range' 0 n 1, i < n := fun i hi => by simpa using (List.mem_range'_1.1 hi).2
  generalize List.range' 0 n 1 = l at hl ⊢
  induction l with
  | nil => simp
  | cons i l ih =>
    have hi : i < n := hl i (by simp)
    have px := run_part_byte w he xs i (by omega)
    have pc : (Instr.checkKey em (d + 1) e (.int .u8 (xs.getD i 0))).run P w = .ok () w := by simp [Instr.checkKey, run_underlying he]
    simp only [List.forIn_cons, Sem.run_bind, hsz, Nat.mul_one, px, pc, Result.andThen_ok, Sem.run_pure]
    exact ih fun j hj => hl j (by simp [hj])

/-- Keys of bytes with their places, in a map's order: what stands under a key, and where. -/
def lk : List (List Int × Int) → List Int → Option Int
  | [], _ => none
  | p :: ps, ys => if p.1 = ys then some p.2 else lk ps ys
def lkAt : List (List Int × Int) → List Int → Option Nat
  | [], _ => none
  | p :: ps, ys => if p.1 = ys then some 0 else (lkAt ps ys).map (· + 1)
theorem lk_set (xs : List Int) (v : Int) : ∀ (ps : List (List Int × Int)) (k : Nat), lkAt ps xs = some k → ∀ ys, lk (ps.set k (xs, v)) ys = if ys = xs then some v else lk ps ys
  | [], k, h, _ => by cases h
  | p :: ps, k, h, ys => by
    unfold lkAt at h
    by_cases hp : p.1 = xs
    · rw [if_pos hp] at h
      injection h with h
      subst h
      rw [List.set_cons_zero]
      unfold lk
      by_cases hy : ys = xs
      · rw [if_pos hy.symm, if_pos hy]
      · rw [if_neg (fun e => hy e.symm), if_neg hy, if_neg (fun e => hy (e.symm.trans hp))]
    · rw [if_neg hp] at h
      obtain ⟨k', hk', rfl⟩ := Option.map_eq_some_iff.1 h
      rw [List.set_cons_succ]
      unfold lk
      rw [lk_set xs v ps k' hk' ys]
      by_cases hy : ys = xs
      · rw [if_neg (fun e => hp (e.trans hy)), if_pos hy, if_pos hy]
      · rw [if_neg hy, if_neg hy]
theorem lk_push (xs : List Int) (v : Int) : ∀ (ps : List (List Int × Int)), lkAt ps xs = none → ∀ ys, lk (ps ++ [(xs, v)]) ys = if ys = xs then some v else lk ps ys
  | [], _, ys => by
    show lk [(xs, v)] ys = _
    unfold lk
    by_cases hy : ys = xs
    · rw [if_pos hy.symm, if_pos hy]
    · rw [if_neg (fun e => hy e.symm), if_neg hy]
      rfl
  | p :: ps, h, ys => by
    unfold lkAt at h
    by_cases hp : p.1 = xs
    · rw [if_pos hp] at h; cases h
    · rw [if_neg hp] at h
      rw [List.cons_append]
      unfold lk
      rw [lk_push xs v ps (by simpa using h) ys]
      by_cases hy : ys = xs
      · rw [if_neg (fun e => hp (e.trans hy)), if_pos hy, if_pos hy]
      · rw [if_neg hy, if_neg hy]
/-- An entry as a key and a place. -/
def kv (x : MapEntry) : Value × Value := (x.key, x.val)
def vv (p : List Int × Int) : Value × Value := (arr p.1, .int .i64 p.2)
theorem arr_inj {xs ys : List Int} (h : arr xs = arr ys) : xs = ys := by
  unfold arr at h
  injection h with h
  have h2 := congrArg Array.toList h
  simp only at h2
  exact (List.map_inj_right fun a b hab => by injection hab).1 h2

theorem run_findAsking_arr (t e : TypeId) (n : Nat) (ht : P.underlying t = some (.array n e)) (he : P.underlying e = some (.int .u8)) (hsz : ∀ w, (sizeOf e).run P w = .ok 1 w)
    (xs : List Int) (hx : xs.length = n) : ∀ (es : List MapEntry) (ps : List (List Int × Int)) (q : Nat), es.map kv = ps.map vv → (∀ p ∈ ps, p.1.length = n) →
      (lkAt ps xs = none ∧ lk ps xs = none ∧ ∀ w, (Instr.findAsking t (arr xs) es q).run P w = .ok none w) ∨ ∃ k u, lkAt ps xs = some k ∧ ps[k]? = some (xs, u) ∧ lk ps xs = some u ∧ ∀ w, (Instr.findAsking t (arr xs) es q).run P w = .ok (some (q + k, .int .i64 u)) w
  | [], [], q, _, _ => Or.inl ⟨rfl, rfl, fun w => by simp [Instr.findAsking]⟩
  | [], _ :: _, _, h, _ => by cases h
  | _ :: _, [], _, h, _ => by cases h
  | x :: es, p :: ps, q, h, hl => by
    rw [List.map_cons, List.map_cons] at h
    injection h with h1 h2
    have hk : x.key = arr p.1 := congrArg Prod.fst h1
    have hv : x.val = .int .i64 p.2 := congrArg Prod.snd h1
    have hy := hl p (by simp)
    have he' := fun w => run_equalIn_arr (P := P) w 9998 t e n ht he hsz xs p.1 hx hy
    unfold lkAt lk
    by_cases hb : p.1 = xs
    · rw [if_pos hb, if_pos hb]
      refine Or.inr ⟨0, p.2, rfl, by rw [← hb]; rfl, rfl, fun w => ?_⟩
      simp only [Instr.findAsking, Op.equal, Sem.run_bind, hk]
      rw [show Op.maxDepth = 9998 + 2 from rfl, he', hb]
      simp [hv]
    · rw [if_neg hb, if_neg hb]
      have hne : (xs == p.1) = false := by simpa using fun e => hb e.symm
      have hrun : ∀ w r, (Instr.findAsking t (arr xs) es (q + 1)).run P w = .ok r w → (Instr.findAsking t (arr xs) (x :: es) q).run P w = .ok r w := fun w r hr => by
        simp only [Instr.findAsking, Op.equal, Sem.run_bind, hk]
        rw [show Op.maxDepth = 9998 + 2 from rfl, he']
        simp [hne, hr]
      rcases run_findAsking_arr t e n ht he hsz xs hx es ps (q + 1) h2 (fun y hy => hl y (by simp [hy])) with ⟨a1, a2, a3⟩ | ⟨k, u, a1, a2, a3, a4⟩
      · exact Or.inl ⟨by rw [a1]; rfl, a2, fun w => hrun w _ (a3 w)⟩
      · refine Or.inr ⟨k + 1, u, by rw [a1]; rfl, by simpa using a2, a3, fun w => ?_⟩
        rw [show q + (k + 1) = q + 1 + k from by omega]
        exact hrun w _ (a4 w)

/-- A map from n bytes to places in block g, with these entries. -/
def Prs (w : World) (g n : Nat) (ps : List (List Int × Int)) : Prop := ∃ es clock, w.heap[g]? = some (.map es clock) ∧ es.toList.map kv = ps.map vv ∧ ∀ p ∈ ps, p.1.length = n
/-- A map from n bytes to places in block g; R is so of what stands under each key. -/
def Places (w : World) (g n : Nat) (R : (List Int → Option Int) → Prop) : Prop := ∃ ps, Prs w g n ps ∧ R (lk ps)

variable {w}
variable {R R' : (List Int → Option Int) → Prop}
theorem Prs.lt {g n : Nat} {ps : List (List Int × Int)} (h : Prs w g n ps) : g < w.heap.size := by
  obtain ⟨es, clock, hb, _⟩ := h
  rcases Nat.lt_or_ge g w.heap.size with h' | h'
  · exact h'
  · rw [Array.getElem?_eq_none h'] at hb; cases hb
theorem Places.lt {g n : Nat} (h : Places w g n R) : g < w.heap.size := by
  obtain ⟨ps, h, _⟩ := h
  exact h.lt
theorem Places.upd {w' : World} {L : List (Option Nat)} {g n : Nat} (h : Places w g n R) (hu : Upd L w w') (hg : some g ∉ L) : Places w' g n R := by
  have hl := h.lt
  obtain ⟨ps, ⟨es, clock, hb, he⟩, hr⟩ := h
  exact ⟨ps, ⟨es, clock, (hu.block g hl hg).trans hb, he⟩, hr⟩
theorem Places.drewN {g n : Nat} (h : Places w g n R) (q : Nat) : Places (w.drewN q) g n R := h
theorem Places.mono {g n : Nat} (h : Places w g n R) (hR : ∀ f, R f → R' f) : Places w g n R' := by
  obtain ⟨ps, hb, hr⟩ := h
  exact ⟨ps, hb, hR _ hr⟩
theorem Places.ne {g n g' : Nat} {t : TypeId} {cs : Array Value} (h : Places w g n R) (hb : Blk w g' t cs) : g ≠ g' := by
  rintro rfl
  obtain ⟨ps, ⟨es, clock, h1, _⟩, _⟩ := h
  unfold Blk at hb
  rw [h1] at hb
  cases hb
theorem Places.neOwn {g n : Nat} (h : Places w g n R) {B : Nat} {e : TypeId} {sz : Nat} {A : Option Addr} {m c : Nat} {xs : List Value} (ho : Own w B e sz A m c xs) : ob A ≠ some g := by
  rcases ho.cases.2.2.2 with ⟨rfl, _⟩ | ⟨g', cur, rfl, _, hb, _⟩
  · intro h; cases h
  · intro e; injection e with e; exact h.ne hb e.symm
theorem Places.new (w : World) (n : Nat) (hR : R fun _ => none) : Places (w.alloc (.map #[] 0)) w.heap.size n R := ⟨[], ⟨#[], 0, by show (w.heap.push _)[w.heap.size]? = _; simp, rfl, by simp⟩, hR⟩

/-- What a lookup finds, in every world that has this map. -/
theorem Places.look {g n : Nat} (h : Places w g n R) {T t e vt : TypeId} (hT : P.underlying T = some (.map t vt)) (ht : P.underlying t = some (.array n e)) (he : P.underlying e = some (.int .u8)) (hsz : ∀ w, (sizeOf e).run P w = .ok 1 w)
    (hz : ∀ w, (zeroValue vt).run P w = .ok (.int .i64 0) w) (xs : List Int) (hx : xs.length = n) :
    ∃ f, R f ∧ ∃ (v : Int) (ok : Bool), (∀ W : World, W.heap[g]? = w.heap[g]? → (Instr.lookup T (.map (some g)) (arr xs) true).run P W = .ok (.tuple #[.int .i64 v, .bool ok]) W) ∧ (f xs = if ok = true then some v else none) := by
  obtain ⟨ps, ⟨es, clock, hb, hkv, hes⟩, hR⟩ := h
  have hc : ∀ em W, (Instr.checkKey em 10000 t (arr xs)).run P W = .ok () W := fun em W => run_checkKey_arr W em 9998 t e n ht he hsz xs hx
  refine ⟨lk ps, hR, ?_⟩
  rcases run_findAsking_arr (P := P) t e n ht he hsz xs hx es.toList ps 0 hkv hes with ⟨_, h2, h3⟩ | ⟨k, u, _, _, h2, h3⟩
  · have hf : ∀ W, (Instr.findKey t (arr xs) es.toList).run P W = .ok none W := fun W => by rw [run_findKey_eq W (by rw [ht]), h3]
    refine ⟨0, false, fun W hW => ?_, by rw [h2]; rfl⟩
    have hb' := hW.trans hb
    unfold Instr.lookup
    simp only [Sem.run_bind, run_underlying hT, Result.andThen_ok, MapKept.run_getObj_map hb', Sem.run_pure, hc, hf, hz, if_true]
  · have hf : ∀ W, (Instr.findKey t (arr xs) es.toList).run P W = .ok (some (0 + k, .int .i64 u)) W := fun W => by rw [run_findKey_eq W (by rw [ht]), h3]
    refine ⟨u, true, fun W hW => ?_, by rw [h2]; rfl⟩
    have hb' := hW.trans hb
    unfold Instr.lookup
    simp only [Sem.run_bind, run_underlying hT, Result.andThen_ok, MapKept.run_getObj_map hb', Sem.run_pure, hc, hf, if_true]

theorem sameBits_byte (m : Nat) (a : Int) : Instr.sameBits m (.int .u8 a) (.int .u8 a) = true := by
  unfold Instr.sameBits
  simp
theorem sameBits_arr (m : Nat) (xs : List Int) : Instr.sameBits (m + 1) (arr xs) (arr xs) = true := by
  unfold arr
  rw [Instr.sameBits]
  simp only [beq_self_eq_true, Bool.true_and, List.all_eq_true]
  intro p hp
  obtain ⟨i, hi⟩ := List.getElem?_of_mem hp
  rw [List.getElem?_zip_eq_some] at hi
  obtain ⟨h1, h2⟩ := hi
  rw [h1] at h2
  injection h2 with h2
  have hm : p.1 ∈ (xs.map (Value.int .u8)).toArray.toList := List.mem_of_getElem? h1
  simp only [List.mem_map] at hm
  obtain ⟨a, _, ha⟩ := hm
  have : p = (Value.int .u8 a, Value.int .u8 a) := by rw [← ha] at h2; exact Prod.ext ha.symm h2.symm
  rw [this]
  exact sameBits_byte m a

/-- What a store leaves: the map alone has changed. -/
theorem Places.store {g n : Nat} (h : Places w g n R) {T t e vt : TypeId} (hT : P.underlying T = some (.map t vt)) (ht : P.underlying t = some (.array n e)) (he : P.underlying e = some (.int .u8)) (hsz : ∀ w, (sizeOf e).run P w = .ok 1 w)
    (xs : List Int) (hx : xs.length = n) (v : Int) (hv : ∀ f, R f → R' fun ys => if ys = xs then some v else f ys) :
    ∃ w', (Instr.mapUpdate T (.map (some g)) (arr xs) (.int .i64 v)).run P w = .ok () w' ∧ Places w' g n R' ∧ Upd [some g] w w' := by
  have hlt := h.lt
  obtain ⟨ps, ⟨es, clock, hb, hkv, hes⟩, hR⟩ := h
  have hc : ∀ em, (Instr.checkKey em 10000 t (arr xs)).run P w = .ok () w := fun em => run_checkKey_arr w em 9998 t e n ht he hsz xs hx
  have hset : ∀ o : Obj, Upd [some g] w { w with heap := w.heap.setIfInBounds g o } := fun o =>
    ⟨rfl, rfl, rfl, by simp, fun k hk hn => by
      have : g ≠ k := fun e => hn (by simp [e])
      simp [this]⟩
  rcases run_findAsking_arr (P := P) t e n ht he hsz xs hx es.toList ps 0 hkv hes with ⟨h1, h2, h3⟩ | ⟨k, u, h1, hpk, h2, h3⟩
  · have hf : (Instr.findKey t (arr xs) es.toList).run P w = .ok none w := by rw [run_findKey_eq w (by rw [ht]), h3]
    refine ⟨{ w with heap := w.heap.setIfInBounds g (.map (es.push { key := arr xs, val := .int .i64 v, born := clock }) (clock + 1)) }, ?_, ⟨ps ++ [(xs, v)], ⟨es.push { key := arr xs, val := .int .i64 v, born := clock }, clock + 1, by simp [hlt], ?_, fun p hp => ?_⟩, ?_⟩, hset _⟩
    · unfold Instr.mapUpdate
      simp only [Sem.run_bind, run_underlying hT, Result.andThen_ok, MapKept.run_getObj_map hb, hc, hf, MapKept.run_setObj_map _ hb]
    · rw [Array.toList_push, List.map_append, List.map_append, hkv]
      rfl
    · rw [List.mem_append, List.mem_singleton] at hp
      rcases hp with hp | rfl
      · exact hes p hp
      · exact hx
    · have e : lk (ps ++ [(xs, v)]) = fun ys => if ys = xs then some v else lk ps ys := funext fun ys => lk_push xs v ps h1 ys
      rw [e]
      exact hv _ hR
  · have hf : (Instr.findKey t (arr xs) es.toList).run P w = .ok (some (0 + k, .int .i64 u)) w := by rw [run_findKey_eq w (by rw [ht]), h3]
    rw [Nat.zero_add] at hf
    have hke : ∃ x, es[k]? = some x ∧ x.key = arr xs := by
      have e1 : (es.toList.map kv)[k]? = some (vv (xs, u)) := by rw [hkv, List.getElem?_map, hpk]; rfl
      rw [List.getElem?_map] at e1
      obtain ⟨x, hx1, hx2⟩ := Option.map_eq_some_iff.1 e1
      rw [Array.getElem?_toList] at hx1
      exact ⟨x, hx1, congrArg Prod.fst hx2⟩
    obtain ⟨x, hxe, hxk⟩ := hke
    have hstay : (Instr.keyThatStays (((es[k]?).map (·.key)).getD (arr xs)) (arr xs)).run P w = .ok (arr xs) w := by
      rw [hxe]
      simp only [Option.map_some, Option.getD_some, hxk]
      unfold Instr.keyThatStays
      rw [if_pos (sameBits_arr 9999 xs)]
      rfl
    refine ⟨{ w with heap := w.heap.setIfInBounds g (.map (es.modify k fun x => { x with key := arr xs, val := .int .i64 v }) clock) }, ?_, ⟨ps.set k (xs, v), ⟨es.modify k fun x => { x with key := arr xs, val := .int .i64 v }, clock, by simp [hlt], ?_, fun p hp => ?_⟩, ?_⟩, hset _⟩
    · unfold Instr.mapUpdate
      simp only [Sem.run_bind, run_underlying hT, Result.andThen_ok, MapKept.run_getObj_map hb, hc, hf, hstay, MapKept.run_setObj_map _ hb]
    · apply List.ext_getElem?
      intro q
      have e1 : (es.toList.map kv)[q]? = (ps.map vv)[q]? := by rw [hkv]
      rw [List.getElem?_map, List.getElem?_map, Array.getElem?_toList] at e1
      rw [List.getElem?_map, List.getElem?_map, Array.getElem?_toList, Array.getElem?_modify, List.getElem?_set]
      by_cases hq : k = q
      · subst hq
        have hlk := (List.getElem?_eq_some_iff.1 hpk).1
        rw [if_pos rfl, if_pos rfl, if_pos hlk, hxe]
        rfl
      · rw [if_neg hq, if_neg hq]
        exact e1
    · rcases List.mem_or_eq_of_mem_set hp with hp | rfl
      · exact hes p hp
      · exact hx
    · have e : lk (ps.set k (xs, v)) = fun ys => if ys = xs then some v else lk ps ys := funext fun ys => lk_set xs v ps k h1 ys
      rw [e]
      exact hv _ hR

end
end Go.Dray

/-! Text DefQ. -/
namespace Go.Proofs.YtolcdlopgbgilaaGreatDoor
open Go.RowKit Go.Dray

/-- A step: a symbol of the third code, the number behind it, and of how many bits. -/
abbrev Step := Int × Int × Int
def growS (r : List Int) (x : Step) : List Int := r ++ List.replicate ((stepOf x.1 r).2.1 + x.2.1).toNat (stepOf x.1 r).1
def expandS (ss : List Step) (r : List Int) : List Int := ss.foldl growS r
def StepOk (r : List Int) (x : Step) : Prop := 0 ≤ x.1 ∧ x.1 ≤ 18 ∧ x.2.2 = ((stepOf x.1 r).2.2 : Nat) ∧ 0 ≤ x.2.1 ∧ x.2.1 < 2 ^ x.2.2.toNat ∧ (x.1 = 16 → r ≠ [])
def StepsOk : List Step → List Int → Prop
  | [], _ => True
  | x :: ss, r => StepOk r x ∧ StepsOk ss (growS r x)
theorem expandS_cons (x : Step) (ss : List Step) (r : List Int) : expandS (x :: ss) r = expandS ss (growS r x) := rfl
theorem expandS_snoc (ss : List Step) (x : Step) (r : List Int) : expandS (ss ++ [x]) r = growS (expandS ss r) x := by simp [expandS]
theorem StepsOk.snoc {ss : List Step} {x : Step} : ∀ {r : List Int}, StepsOk ss r → StepOk (expandS ss r) x → StepsOk (ss ++ [x]) r := by
  induction ss with
  | nil => intro r _ h; exact ⟨h, trivial⟩
  | cons y ss ih => intro r h h2; exact ⟨h.1, ih h.2 h2⟩
theorem stepOf_pos (s : Int) (r : List Int) : 1 ≤ (stepOf s r).2.1 := by
  unfold stepOf
  split
  · simp
  · split
    · simp
    · split <;> simp
theorem growS_len {r : List Int} {x : Step} (h : 0 ≤ x.2.1) : r.length + 1 ≤ (growS r x).length := by
  unfold growS
  rw [List.length_append, List.length_replicate]
  have := stepOf_pos x.1 r
  omega
theorem expandS_len (ss : List Step) : ∀ r : List Int, r.length ≤ (expandS ss r).length := by
  induction ss with
  | nil => intro r; exact Nat.le_refl _
  | cons x ss ih =>
    intro r
    have h : r.length ≤ (growS r x).length := by unfold growS; rw [List.length_append]; omega
    exact Nat.le_trans h (ih _)
/-- As many steps as lengths, at most. -/
theorem expandS_ge (ss : List Step) : ∀ r : List Int, StepsOk ss r → r.length + ss.length ≤ (expandS ss r).length := by
  induction ss with
  | nil => intro r _; exact Nat.le_refl _
  | cons x ss ih =>
    intro r h
    have h1 := growS_len (r := r) h.1.2.2.2.1
    have h2 := ih _ h.2
    rw [expandS_cons, List.length_cons]
    omega

def stepBits (tz : List Int) (x : Step) : List Bool := rowOf tz x.1.toNat ++ digits x.2.1 x.2.2.toNat
def stepsBits (tz : List Int) (ss : List Step) : List Bool := ss.flatMap (stepBits tz)
theorem stepsBits_snoc (tz : List Int) (ss : List Step) (x : Step) : stepsBits tz (ss ++ [x]) = stepsBits tz ss ++ stepBits tz x := by simp [stepsBits]

theorem row_back {bs : List Bool} {most : Nat} {tz : List Int} {k : List Int → Pr} {o : List Int} (ht : chk tz = 0) (cnt : Nat) (ss : List Step) :
    ∀ (r : List Int) (p f : Nat), p ≤ bs.length → (∀ x ∈ ss, Has tz x.1.toNat) → StepsOk ss r → Beg bs p (stepsBits tz ss) → ss.length < f → (expandS ss r).length = cnt →
      run bs most (rowPr tz cnt f r k) p o = run bs most (k (expandS ss r)) (p + (stepsBits tz ss).length) o := by
  induction ss with
  | nil =>
    intro r p f hp _ _ hb hf hc
    obtain ⟨f, rfl⟩ : ∃ f', f = f' + 1 := ⟨f - 1, by simp at hf; omega⟩
    have hc' : cnt ≤ r.length := by rw [← hc]; exact Nat.le_refl _
    rw [rowPr, if_pos hc']
    rfl
  | cons x ss ih =>
    intro r p f hp hh hok hb hf hc
    obtain ⟨f, rfl⟩ : ∃ f', f = f' + 1 := ⟨f - 1, by simp at hf; omega⟩
    obtain ⟨⟨h1, h2, h3, h4, h5, h6⟩, hok2⟩ := hok
    have hx := hh x (by simp)
    have e0 : stepsBits tz (x :: ss) = rowOf tz x.1.toNat ++ (digits x.2.1 x.2.2.toNat ++ stepsBits tz ss) := by simp [stepsBits, stepBits]
    rw [e0] at hb ⊢
    obtain ⟨b1, b2⟩ := hb.app
    have l1 := b1.len hp
    obtain ⟨b2, b3⟩ := b2.app
    have l2 := b2.len l1
    rw [digits_len] at b3 l2
    rw [expandS_cons] at hc ⊢
    have hg := growS_len (r := r) (x := x) h4
    have hle := expandS_len ss (growS r x)
    have hgl : (growS r x).length = r.length + ((stepOf x.1 r).2.1 + x.2.1).toNat := by unfold growS; rw [List.length_append, List.length_replicate]
    have hsp := stepOf_pos x.1 r
    have ex : ((x.1.toNat : Nat) : Int) = x.1 := by omega
    have e16 : ¬ (x.1 = 16 ∧ r.length = 0) := fun h => h6 h.1 (List.eq_nil_of_length_eq_zero h.2)
    have en : (stepOf x.1 r).2.2 = x.2.2.toNat := by omega
    rw [rowPr, if_neg (by omega), run_next_row ht hx b1, ex, if_neg e16, en, run_take_dig h4 h5 l1 b2, if_neg (by omega)]
    have hgo := ih (growS r x) (p + (rowOf tz x.1.toNat).length + x.2.2.toNat) f l2 (fun y hy => hh y (by simp [hy])) hok2 b3 (by simp at hf; omega) hc
    rw [List.length_append, List.length_append, digits_len, show p + ((rowOf tz x.1.toNat).length + (x.2.2.toNat + (stepsBits tz ss).length)) = p + (rowOf tz x.1.toNat).length + x.2.2.toNat + (stepsBits tz ss).length from by omega, ← hgo]
    rfl

theorem tk3_back {bs : List Bool} {most : Nat} {k : List Int → Pr} {o : List Int} (l : List Int) :
    ∀ (acc : List Int) (p : Nat), p ≤ bs.length → (∀ z ∈ l, 0 ≤ z ∧ z ≤ 7) → Beg bs p (l.flatMap fun z => digits z 3) →
      run bs most (tk3 l.length acc k) p o = run bs most (k (acc ++ l)) (p + (l.flatMap fun z => digits z 3).length) o := by
  induction l with
  | nil => intro acc p _ _ _; simp [tk3]
  | cons z l ih =>
    intro acc p hp hz hb
    rw [List.flatMap_cons] at hb ⊢
    obtain ⟨b1, b2⟩ := hb.app
    have l1 := b1.len hp
    rw [digits_len] at b2 l1
    have hz0 := hz z (by simp)
    rw [List.length_cons, tk3, run_take_dig hz0.1 (by omega) hp b1, ih _ _ l1 (fun y hy => hz y (by simp [hy])) b2, List.append_assoc, List.length_append, digits_len, Nat.add_assoc]
    rfl

/-- The lengths of the third code in the order in which they are told. -/
def orderedOf (L : List Int) : List Int := orderL.map fun s => L.getD s 0
theorem orderedOf_len (L : List Int) : (orderedOf L).length = 19 := by unfold orderedOf; rw [List.length_map]; rfl
theorem order_idx : ∀ j, j < 19 → orderL.idxOf j < 19 ∧ orderL.getD (orderL.idxOf j) 0 = j := by decide
theorem orderedOf_get (L : List Int) {i : Nat} (h : i < 19) : (orderedOf L).getD i 0 = L.getD (orderL.getD i 0) 0 := by
  unfold orderedOf
  simp only [List.getD, List.getElem?_map, List.getElem?_eq_getElem (show i < orderL.length from h)]
  rfl
theorem third_back {L : List Int} (hl : L.length = 19) {c : Nat} (hc : c ≤ 19) (hz : ∀ i, c ≤ i → i < 19 → (orderedOf L).getD i 0 = 0) : thirdOf ((orderedOf L).take c) = L := by
  have e : L = tab 19 fun j => L.getD j 0 := by have := tab_of L 0; rw [hl] at this; exact this
  have hlen : ((orderedOf L).take c).length = c := by rw [List.length_take, orderedOf_len]; omega
  rw [thirdOf, hlen]
  conv => rhs; rw [e]
  refine tab_congr fun j hj => ?_
  obtain ⟨h1, h2⟩ := order_idx j hj
  have h3 := orderedOf_get L h1
  rw [h2] at h3
  by_cases h : orderL.idxOf j < c
  · rw [if_pos h, ← h3]
    simp only [List.getD, List.getElem?_take_of_lt h]
  · rw [if_neg h, ← h3, hz _ (by omega) h1]

/-- n lengths hold all that are above nought. -/
def ToldIs (L : List Int) (least n : Nat) : Prop := n ≤ L.length ∧ (least ≤ L.length → least ≤ n) ∧ ∀ i, n ≤ i → i < L.length → L.getD i 0 = 0

theorem wsum_app (a b : List Int) : wsum (a ++ b) = wsum a + wsum b := by unfold wsum; rw [List.map_append, List.sum_append]
theorem zeros_of {L : List Int} {n : Nat} (h : ∀ i, n ≤ i → i < L.length → L.getD i 0 = 0) : ∀ z ∈ L.drop n, z = 0 := by
  intro z hz
  obtain ⟨i, hi⟩ := List.getElem?_of_mem hz
  rw [List.getElem?_drop] at hi
  have hl := (List.getElem?_eq_some_iff.1 hi).1
  have := h (n + i) (by omega) hl
  rw [List.getD, hi] at this
  exact this
theorem wsum_zeros {l : List Int} (h : ∀ z ∈ l, z = 0) : wsum l = 0 := by
  induction l with
  | nil => rfl
  | cons z l ih =>
    have h1 := h z (by simp)
    have h2 := ih fun y hy => h y (by simp [hy])
    unfold wsum at h2 ⊢
    rw [List.map_cons, List.sum_cons, h2, h1]
    rfl
theorem sum_zeros {l : List Int} (h : ∀ z ∈ l, z = 0) : l.sum = 0 := by
  induction l with
  | nil => rfl
  | cons z l ih => rw [List.sum_cons, ih fun y hy => h y (by simp [hy]), h z (by simp)]; rfl
theorem full_parts {L : List Int} (h : fullB L = true) : L.length ≤ 320 ∧ (∀ z ∈ L, 0 ≤ z ∧ z ≤ 15) ∧ wsum L = 32768 ∧ chk L = 0 := by
  unfold fullB at h
  simp only [Bool.and_eq_true, beq_iff_eq] at h
  have := chk_zero h.1
  exact ⟨this.1, this.2.1, h.2, h.1⟩
theorem full_mk {L : List Int} (h1 : L.length ≤ 320) (h2 : ∀ z ∈ L, 0 ≤ z ∧ z ≤ 15) (h3 : wsum L = 32768) : fullB L = true := by
  unfold fullB
  simp only [Bool.and_eq_true, beq_iff_eq]
  exact ⟨chk_ok h1 h2 (by omega), h3⟩
theorem full_pre {L : List Int} {n : Nat} (h : ∀ i, n ≤ i → i < L.length → L.getD i 0 = 0) (hf : fullB L = true) : fullB (L.take n) = true := by
  obtain ⟨h1, h2, h3, _⟩ := full_parts hf
  refine full_mk (by rw [List.length_take]; omega) (fun z hz => h2 z (List.mem_of_mem_take hz)) ?_
  have e := wsum_app (L.take n) (L.drop n)
  rw [List.take_append_drop, wsum_zeros (zeros_of h)] at e
  omega

/-- What is told of the codes. -/
def tellBits (lz dz tz : List Int) (c : Nat) (ss : List Step) : List Bool :=
  digits ((lz.length : Int) - 257) 5 ++ (digits ((dz.length : Int) - 1) 5 ++ (digits ((c : Int) - 4) 4 ++ (((orderedOf tz).take c).flatMap (fun z => digits z 3) ++ stepsBits tz ss)))

/-- What is right of what is told. -/
structure TellOk (lz dz tz : List Int) (c : Nat) (ss : List Step) : Prop where
  l1 : 257 ≤ lz.length
  l2 : lz.length ≤ 286
  d1 : 1 ≤ dz.length
  d2 : dz.length ≤ 30
  c1 : 4 ≤ c
  c2 : c ≤ 19
  tl : tz.length = 19
  tf : fullB tz = true
  t7 : ∀ z ∈ tz, 0 ≤ z ∧ z ≤ 7
  tz0 : ∀ i, c ≤ i → i < 19 → (orderedOf tz).getD i 0 = 0
  ok : StepsOk ss []
  ex : expandS ss [] = lz ++ dz
  has : ∀ x ∈ ss, Has tz x.1.toNat
  lf : fullB lz = true
  l256 : lz.getD 256 0 ≠ 0
  df : fullB dz = true ∨ loneB dz = true

theorem tell_back {bs : List Bool} {most : Nat} {lz dz tz : List Int} {c : Nat} {ss : List Step} (h : TellOk lz dz tz c ss) {k : List Int → List Int → Pr} {o : List Int} {p : Nat} {F : Nat} (hp : p ≤ bs.length) (hb : Beg bs p (tellBits lz dz tz c ss)) (hF : 316 < F) :
    run bs most (lensPr F k) p o = run bs most (k lz dz) (p + (tellBits lz dz tz c ss).length) o := by
  have hl1 := h.l1
  have hl2 := h.l2
  have hd1 := h.d1
  have hd2 := h.d2
  have hc1 := h.c1
  have hc2 := h.c2
  unfold tellBits at hb ⊢
  obtain ⟨b1, b2⟩ := hb.app
  have q1 := b1.len hp
  rw [digits_len] at b2 q1
  obtain ⟨b2, b3⟩ := b2.app
  have q2 := b2.len q1
  rw [digits_len] at b3 q2
  obtain ⟨b3, b4⟩ := b3.app
  have q3 := b3.len q2
  rw [digits_len] at b4 q3
  obtain ⟨b4, b5⟩ := b4.app
  have q4 := b4.len q3
  have htl : ((orderedOf tz).take c).length = c := by rw [List.length_take, orderedOf_len]; omega
  have hz7 : ∀ z ∈ (orderedOf tz).take c, 0 ≤ z ∧ z ≤ 7 := fun z hz => by
    have hm := List.mem_of_mem_take hz
    unfold orderedOf at hm
    obtain ⟨s, _, rfl⟩ := List.mem_map.1 hm
    by_cases hs : s < tz.length
    · rw [List.getD, List.getElem?_eq_getElem hs]; exact h.t7 _ (List.getElem_mem hs)
    · rw [List.getD, List.getElem?_eq_none (by omega)]; simp
  unfold lensPr
  rw [run_take_dig (by omega) (by omega) hp b1, run_take_dig (by omega) (by omega) q1 b2, run_take_dig (by omega) (by omega) q2 b3, if_neg (by omega)]
  have ec : ((c : Int) - 4 + 4).toNat = c := by omega
  have el : ((lz.length : Int) - 257 + 257).toNat = lz.length := by omega
  have en : ((lz.length : Int) - 257 + 257 + ((dz.length : Int) - 1 + 1)).toNat = lz.length + dz.length := by omega
  have e1 := tk3_back (bs := bs) (most := most) (o := o) (k := fun acc => if fullB (thirdOf acc) = false then Pr.fail 3 else rowPr (thirdOf acc) (lz.length + dz.length) F [] fun row =>
      if row.getD 256 0 = 0 ∨ fullB (row.take lz.length) = false then .fail 3 else
      if fullB (row.drop lz.length) = false ∧ loneB (row.drop lz.length) = false then .fail 3 else k (row.take lz.length) (row.drop lz.length)) ((orderedOf tz).take c) [] _ q3 hz7 b4
  rw [htl] at e1
  rw [ec, el, en, e1, List.nil_append, third_back h.tl hc2 h.tz0, h.tf, if_neg (by decide)]
  have hss : ss.length < F := by
    have := expandS_ge ss [] h.ok
    rw [h.ex, List.length_append] at this
    simp at this
    omega
  rw [row_back (full_parts h.tf).2.2.2 (lz.length + dz.length) ss [] _ F q4 h.has h.ok b5 hss (by rw [h.ex, List.length_append]), h.ex]
  have g256 : (lz ++ dz).getD 256 0 = lz.getD 256 0 := by simp only [List.getD, List.getElem?_append_left (show 256 < lz.length by omega)]
  have hnd : ¬ (fullB dz = false ∧ loneB dz = false) := fun hh => by
    rcases h.df with h1 | h1
    · rw [h1] at hh; exact absurd hh.1 (by decide)
    · rw [h1] at hh; exact absurd hh.2 (by decide)
  rw [g256, List.take_left' rfl, List.drop_left' rfl, h.lf, if_neg (by intro hh; rcases hh with hh | hh; exact h.l256 hh; exact absurd hh (by decide)), if_neg hnd]
  simp only [List.length_append, digits_len, Nat.add_assoc]

/-- A row of one length that is told needs a symbol 16; so there are two symbols in whatever is told. -/
theorem expandS_same {a : Int} (ha : a ≠ 16) (ss : List Step) : ∀ (r : List Int) (v : Int), v = (stepOf a []).1 → (∀ x ∈ ss, x.1 = a) → (∀ z ∈ r, z = v) → ∀ z ∈ expandS ss r, z = v := by
  induction ss with
  | nil => intro r v _ _ hr z hz; exact hr z hz
  | cons x ss ih =>
    intro r v hv hs hr
    rw [expandS_cons]
    refine ih _ v hv (fun y hy => hs y (by simp [hy])) fun z hz => ?_
    unfold growS at hz
    rw [List.mem_append] at hz
    rcases hz with hz | hz
    · exact hr z hz
    · rw [List.mem_replicate] at hz
      rw [hz.2, hs x (by simp), hv]
      unfold stepOf
      rw [if_neg ha, if_neg ha]
def TwoSyms (ss : List Step) : Prop := ∃ x ∈ ss, ∃ y ∈ ss, x.1 ≠ y.1
theorem two_syms {ss : List Step} {row : List Int} (hok : StepsOk ss []) (he : expandS ss [] = row) (h256 : row.getD 256 0 ≠ 0) (hC : ∀ a, a ≠ 0 → (∀ z ∈ row, z = a) → ∃ x ∈ ss, x.1 = 16) : TwoSyms ss := by
  cases ss with
  | nil => subst he; exact absurd rfl h256
  | cons x0 ss =>
    have h0 : x0.1 ≠ 16 := fun h => hok.1.2.2.2.2.2 h rfl
    by_cases hall : ∀ x ∈ x0 :: ss, x.1 = x0.1
    · exfalso
      have hrow : ∀ z ∈ row, z = (stepOf x0.1 []).1 := by rw [← he]; exact expandS_same h0 _ [] _ rfl hall (by simp)
      have h1 : row.getD 256 0 = (stepOf x0.1 []).1 := by
        by_cases hl : 256 < row.length
        · rw [List.getD, List.getElem?_eq_getElem hl]; exact hrow _ (List.getElem_mem hl)
        · rw [List.getD, List.getElem?_eq_none (by omega)] at h256; exact absurd rfl h256
      obtain ⟨x, hx, h16⟩ := hC _ (by rw [← h1]; exact h256) hrow
      exact h0 ((hall x hx).symm.trans h16)
    · have : ∃ y, y ∈ x0 :: ss ∧ y.1 ≠ x0.1 := by
        apply Classical.byContradiction
        intro hn
        exact hall fun x hx => Classical.byContradiction fun hne => hn ⟨x, hx, hne⟩
      obtain ⟨y, hy, hne⟩ := this
      exact ⟨x0, by simp, y, hy, fun e => hne e.symm⟩

/-- How often each symbol comes. -/
def countS (ss : List Step) (s : Nat) : Int := ss.countP fun x => x.1 = (s : Int)
theorem countS_snoc (ss : List Step) (x : Step) (s : Nat) : countS (ss ++ [x]) s = countS ss s + if x.1 = (s : Int) then 1 else 0 := by
  unfold countS
  rw [List.countP_append, List.countP_singleton]
  by_cases h : x.1 = (s : Int) <;> simp [h]
theorem countS_pos {ss : List Step} {x : Step} (h : x ∈ ss) (h0 : 0 ≤ x.1) : 0 < countS ss x.1.toNat := by
  unfold countS
  have : 0 < ss.countP fun y => decide (y.1 = ((x.1.toNat : Nat) : Int)) := List.countP_pos_iff.2 ⟨x, h, by simp; omega⟩
  omega
theorem StepsOk.mem {ss : List Step} : ∀ {r : List Int}, StepsOk ss r → ∀ x ∈ ss, 0 ≤ x.1 ∧ x.1 ≤ 18 := by
  induction ss with
  | nil => intro r _ x hx; cases hx
  | cons y ss ih =>
    intro r h x hx
    rcases List.mem_cons.1 hx with rfl | hx
    · exact ⟨h.1.1, h.1.2.1⟩
    · exact ih h.2 x hx

theorem two_len {α : Type} {l : List α} {a b : α} (ha : a ∈ l) (hb : b ∈ l) (hne : a ≠ b) : 2 ≤ l.length := by
  match l, ha, hb with
  | [x], ha, hb => rw [List.mem_singleton] at ha hb; exact absurd (ha.trans hb.symm) hne
  | _ :: _ :: _, _, _ => simp
theorem two_used {zs : List Int} {i j : Nat} (hi : i < zs.length) (hj : j < zs.length) (hne : i ≠ j) (pi : 0 < zs.getD i 0) (pj : 0 < zs.getD j 0) : 2 ≤ (usedI zs zs.length).length := by
  refine two_len (a := (i : Int)) (b := (j : Int)) ?_ ?_ (by omega)
  · exact List.mem_map.2 ⟨i, List.mem_filter.2 ⟨List.mem_range.2 hi, by simpa using pi⟩, rfl⟩
  · exact List.mem_map.2 ⟨j, List.mem_filter.2 ⟨List.mem_range.2 hj, by simpa using pj⟩, rfl⟩

theorem getD_ex {L : List Int} {z : Int} (h : z ∈ L) : ∃ i, i < L.length ∧ L.getD i 0 = z := by
  obtain ⟨i, hi⟩ := List.getElem?_of_mem h
  exact ⟨i, (List.getElem?_eq_some_iff.1 hi).1, by rw [List.getD, hi]; rfl⟩
theorem LensOk.full' {zs : List Int} {most : Nat} {L : List Int} (h : LensOk zs most L) (hm : most ≤ 15) (hl : zs.length ≤ 320) (hu : 2 ≤ (usedI zs zs.length).length) : fullB L = true := by
  refine full_mk (by rw [h.len]; exact hl) (fun z hz => ?_) (h.full hu)
  obtain ⟨i, hi, rfl⟩ := getD_ex hz
  have := h.bd i (by rw [← h.len]; exact hi)
  omega

/-- Of at most one symbol: the lengths' sum is at most 1. -/
theorem sum_used {zs L : List Int} (h1 : ∀ i, i < zs.length → L.getD i 0 ≤ 1) (h0 : ∀ i, i < zs.length → (0 < L.getD i 0 → 0 < zs.getD i 0)) : ∀ n, n ≤ zs.length → n ≤ L.length → (L.take n).sum ≤ ((usedI zs n).length : Int) := by
  intro n
  induction n with
  | zero => intro _ _; simp
  | succ n ih =>
    intro hn hl
    have hi := ih (by omega) (by omega)
    have e1 : (L.take (n + 1)).sum = (L.take n).sum + L.getD n 0 := by
      rw [List.take_succ_eq_append_getElem (by omega), List.sum_append, List.sum_singleton, List.getD, List.getElem?_eq_getElem (show n < L.length by omega)]
      rfl
    have e2 : (usedI zs (n + 1)).length = (usedI zs n).length + if 0 < zs.getD n 0 then 1 else 0 := by
      unfold usedI
      rw [List.range_succ, List.filter_append, List.map_append, List.length_append]
      by_cases hz : 0 < zs.getD n 0
      · rw [if_pos hz, List.filter_cons_of_pos (by simpa using hz)]; rfl
      · rw [if_neg hz, List.filter_cons_of_neg (by simpa using hz)]; rfl
    have a := h1 n (by omega)
    have b := h0 n (by omega)
    rw [e1, e2]
    by_cases hz : 0 < zs.getD n 0
    · rw [if_pos hz]; omega
    · rw [if_neg hz]
      have : ¬ 0 < L.getD n 0 := fun h => hz (b h)
      omega
theorem LensOk.lone' {zs : List Int} {most : Nat} {L : List Int} (h : LensOk zs most L) (hu : (usedI zs zs.length).length < 2) {n : Nat} (hn : n ≤ L.length) : loneB (L.take n) = true := by
  have h1 := sum_used (zs := zs) (L := L) (h.one hu) (fun i hi => (h.pos i hi).1) n (by rw [← h.len]; exact hn) hn
  have h2 : (usedI zs n).length ≤ (usedI zs zs.length).length := by
    unfold usedI
    rw [List.length_map, List.length_map]
    refine (List.Sublist.filter _ ?_).length_le
    have : List.range n = (List.range zs.length).take n := by rw [List.take_range, Nat.min_eq_left (by rw [← h.len]; exact hn)]
    rw [this]
    exact List.take_sublist _ _
  unfold loneB
  rw [decide_eq_true_eq]
  omega
theorem LensOk.dist' {zs : List Int} {most : Nat} {L : List Int} (h : LensOk zs most L) (hm : most ≤ 15) (hl : zs.length ≤ 320) {least n : Nat} (ht : ToldIs L least n) : fullB (L.take n) = true ∨ loneB (L.take n) = true := by
  by_cases hu : 2 ≤ (usedI zs zs.length).length
  · exact Or.inl (full_pre ht.2.2 (h.full' hm hl hu))
  · exact Or.inr (h.lone' (by omega) ht.1)
/-- A symbol that comes has a row, in what is told. -/
theorem LensOk.has {zs : List Int} {most : Nat} {L : List Int} (h : LensOk zs most L) {least n : Nat} (ht : ToldIs L least n) {s : Nat} (hs : s < zs.length) (hp : 0 < zs.getD s 0) : Has (L.take n) s := by
  have h1 := (h.pos s hs).2 hp
  have hn : s < n := by
    rcases Nat.lt_or_ge s n with h2 | h2
    · exact h2
    · have := ht.2.2 s h2 (by rw [h.len]; exact hs); omega
  have hl := ht.1
  refine ⟨by rw [List.length_take]; omega, ?_⟩
  have e : (L.take n).getD s 0 = L.getD s 0 := by simp only [List.getD, List.getElem?_take_of_lt hn]
  rw [e]
  exact h1

/-- The symbol of literals of a piece. -/
def psym (x : Piece) : Nat := if x.2 = 0 then x.1.toNat else (lsym x.1).1.toNat
/-- How often the symbols of literals come, and those of distances. -/
def litC (ps : List Piece) (s : Nat) : Int := ps.countP fun x => psym x = s
def distC (ps : List Piece) (t : Nat) : Int := ps.countP fun x => x.2 ≠ 0 ∧ (dsym x.2).1.toNat = t
def litZ (ps : List Piece) : List Int := tab 286 fun s => litC ps s + (if s = 256 then 1 else 0) + if s = 0 ∧ ps.length = 0 then 1 else 0
def distZ (ps : List Piece) : List Int := tab 30 fun t => distC ps t
theorem litC_snoc (ps : List Piece) (x : Piece) (s : Nat) : litC (ps ++ [x]) s = litC ps s + if psym x = s then 1 else 0 := by
  unfold litC
  rw [List.countP_append, List.countP_singleton]
  by_cases h : psym x = s <;> simp [h]
theorem distC_snoc (ps : List Piece) (x : Piece) (t : Nat) : distC (ps ++ [x]) t = distC ps t + if x.2 ≠ 0 ∧ (dsym x.2).1.toNat = t then 1 else 0 := by
  unfold distC
  rw [List.countP_append, List.countP_singleton]
  by_cases h : x.2 ≠ 0 ∧ (dsym x.2).1.toNat = t <;> simp [h]
theorem litZ_len (ps : List Piece) : (litZ ps).length = 286 := tab_len _ _
theorem distZ_len (ps : List Piece) : (distZ ps).length = 30 := tab_len _ _
theorem litZ_get (ps : List Piece) {s : Nat} (h : s < 286) : (litZ ps).getD s 0 = litC ps s + (if s = 256 then 1 else 0) + if s = 0 ∧ ps.length = 0 then 1 else 0 := getD_tab _ h
theorem distZ_get (ps : List Piece) {t : Nat} (h : t < 30) : (distZ ps).getD t 0 = distC ps t := getD_tab _ h
theorem litC_nonneg (ps : List Piece) (s : Nat) : 0 ≤ litC ps s := by unfold litC; omega
theorem litC_pos {ps : List Piece} {x : Piece} (h : x ∈ ps) : 0 < litC ps (psym x) := by
  unfold litC
  have : 0 < ps.countP fun y => decide (psym y = psym x) := List.countP_pos_iff.2 ⟨x, h, by simp⟩
  omega
theorem distC_pos {ps : List Piece} {x : Piece} (h : x ∈ ps) (h0 : x.2 ≠ 0) : 0 < distC ps (dsym x.2).1.toNat := by
  unfold distC
  have : 0 < ps.countP fun y => decide (y.2 ≠ 0 ∧ (dsym y.2).1.toNat = (dsym x.2).1.toNat) := List.countP_pos_iff.2 ⟨x, h, by simp [h0]⟩
  omega
theorem PiecesOk.mem {ps : List Piece} : ∀ {o : List Int}, PiecesOk ps o → ∀ x ∈ ps, (x.2 = 0 ∧ 0 ≤ x.1 ∧ x.1 ≤ 255) ∨ (3 ≤ x.1 ∧ x.1 ≤ 258 ∧ 1 ≤ x.2 ∧ x.2 ≤ 32768) := by
  induction ps with
  | nil => intro o _ x hx; cases hx
  | cons y ps ih =>
    intro o h x hx
    rcases List.mem_cons.1 hx with rfl | hx
    · rcases h.1 with h1 | ⟨h1, h2, h3, h4, _⟩
      · exact Or.inl h1
      · exact Or.inr ⟨h1, h2, h3, h4⟩
    · exact ih h.2 x hx
theorem psym_lt {x : Piece} (h : (x.2 = 0 ∧ 0 ≤ x.1 ∧ x.1 ≤ 255) ∨ (3 ≤ x.1 ∧ x.1 ≤ 258 ∧ 1 ≤ x.2 ∧ x.2 ≤ 32768)) : psym x < 286 ∧ psym x ≠ 256 := by
  unfold psym
  rcases h with ⟨h0, h1, h2⟩ | ⟨h1, h2, h3, h4⟩
  · rw [if_pos h0]; omega
  · rw [if_neg (by omega)]; have := lsym_bd h1 h2; omega
theorem lit_two {ps : List Piece} (h : PiecesOk ps []) : 2 ≤ (usedI (litZ ps) (litZ ps).length).length := by
  have h256 : 0 < (litZ ps).getD 256 0 := by
    rw [litZ_get ps (by omega), if_pos rfl]
    have := litC_nonneg ps 256
    split <;> omega
  cases ps with
  | nil => exact two_used (i := 0) (j := 256) (by rw [litZ_len]; omega) (by rw [litZ_len]; omega) (by omega) (by decide) h256
  | cons x ps =>
    have hm := psym_lt (PiecesOk.mem h x (by simp))
    refine two_used (i := psym x) (j := 256) (by rw [litZ_len]; exact hm.1) (by rw [litZ_len]; omega) hm.2 ?_ h256
    rw [litZ_get _ hm.1]
    have := litC_pos (ps := x :: ps) (x := x) (by simp)
    split <;> split <;> omega
theorem piece_has {ps : List Piece} (h : PiecesOk ps []) {L M : List Int} (hl : LensOk (litZ ps) 15 L) (hd : LensOk (distZ ps) 15 M) {n m : Nat} (tl : ToldIs L 257 n) (td : ToldIs M 1 m) : (∀ x ∈ ps, PieceHas (L.take n) (M.take m) x) ∧ Has (L.take n) 256 := by
  refine ⟨fun x hx => ?_, ?_⟩
  · have hm := PiecesOk.mem h x hx
    have hs := psym_lt hm
    have hp := litC_pos hx
    have hL : Has (L.take n) (psym x) := hl.has tl (by rw [litZ_len]; exact hs.1) (by rw [litZ_get _ hs.1]; split <;> split <;> omega)
    unfold PieceHas
    unfold psym at hL
    rcases hm with ⟨h0, _⟩ | ⟨h1, h2, h3, h4⟩
    · rw [if_pos h0] at hL ⊢; exact hL
    · have hne : ¬ x.2 = 0 := by omega
      rw [if_neg hne] at hL ⊢
      have hds := dsym_ok h3 h4
      have hdl := hds.lo
      have hdh := hds.hi
      have ht : (dsym x.2).1.toNat < 30 := by omega
      exact ⟨hL, hd.has td (by rw [distZ_len]; exact ht) (by rw [distZ_get _ ht]; exact distC_pos hx hne)⟩
  · refine hl.has tl (by rw [litZ_len]; omega) ?_
    rw [litZ_get ps (by omega), if_pos rfl]
    have := litC_nonneg ps 256
    split <;> omega

end Go.Proofs.YtolcdlopgbgilaaGreatDoor

/-! Text DefR. -/
namespace Go.Proofs.YtolcdlopgbgilaaGreatDoor
open Go.RowKit Go.Dray

theorem pack_bits {ys : List Int} (hb : ∀ z ∈ ys, 0 ≤ z ∧ z ≤ 255) : pack (bitsOf ys) = ys := by
  have h := tab_of ys 0
  unfold pack
  rw [bitsOf_len, show (8 * ys.length + 7) / 8 = ys.length from by omega]
  conv => rhs; rw [h]
  refine tab_congr fun i hi => ?_
  unfold packB
  exact num_byte ys i hi hb

theorem beg_pack (bits X Y : List Bool) (h : bits = X ++ Y) : Beg (bitsOf (pack bits)) 0 X := ⟨Y ++ List.replicate (8 * ((bits.length + 7) / 8) - bits.length) false, by rw [List.drop_zero, bitsOf_pack, h, List.append_assoc]⟩

/-- What is written by kind 1, and by kind 2. -/
def fixBits (ps : List Piece) : List Bool := digits 1 1 ++ (digits 1 2 ++ blockBits fixedL fixedD ps)
def dynBits (lz dz tz : List Int) (c : Nat) (ss : List Step) (ps : List Piece) : List Bool := digits 1 1 ++ (digits 2 2 ++ (tellBits lz dz tz c ss ++ blockBits lz dz ps))

theorem fixedL_has {s : Nat} (h : s < 288) : Has fixedL s := by
  have hall : ∀ s, s < 288 → (s < fixedL.length ∧ 0 < fixedL.getD s 0) := by decide +kernel
  exact hall s h
theorem fixedD_has {s : Nat} (h : s < 32) : Has fixedD s := by
  have hall : ∀ s, s < 32 → (s < fixedD.length ∧ 0 < fixedD.getD s 0) := by decide +kernel
  exact hall s h
theorem fixed_has {ps : List Piece} (h : PiecesOk ps []) : ∀ x ∈ ps, PieceHas fixedL fixedD x := by
  intro x hx
  unfold PieceHas
  rcases PiecesOk.mem h x hx with ⟨h0, h1, h2⟩ | ⟨h1, h2, h3, h4⟩
  · rw [if_pos h0]; exact fixedL_has (by omega)
  · rw [if_neg (by omega)]
    have := lsym_bd h1 h2
    have hd := dsym_ok h3 h4
    have := hd.lo
    have := hd.hi
    exact ⟨fixedL_has (by omega), fixedD_has (by omega)⟩

/-- No more pieces than bytes. -/
theorem expand_ge (ps : List Piece) : ∀ o : List Int, PiecesOk ps o → o.length + ps.length ≤ (expand ps o).length := by
  induction ps with
  | nil => intro o _; exact Nat.le_refl _
  | cons x ps ih =>
    intro o h
    have h2 := ih _ h.2
    rw [expand_cons, List.length_cons]
    have h3 : o.length + 1 ≤ (grow1 o x).length := by
      unfold grow1
      rcases h.1 with ⟨h0, _⟩ | ⟨h1, _, h3, _⟩
      · rw [if_pos h0]; simp
      · rw [if_neg (by omega), List.length_append, cp_len]; omega
    omega

theorem fix_back {ps : List Piece} {b : List Int} (hok : PiecesOk ps []) (he : expand ps [] = b) {most F : Nat} (hm : b.length ≤ most) (hF : b.length < F) :
    run (bitsOf (pack (fixBits ps))) most (infPr F F) 0 [] = .ok b (fixBits ps).length := by
  obtain ⟨F', hF'⟩ : ∃ F', F = F' + 1 := ⟨F - 1, by omega⟩
  have hb := beg_pack (fixBits ps) (fixBits ps) [] (by simp)
  have hp : 0 ≤ (bitsOf (pack (fixBits ps))).length := Nat.zero_le _
  generalize hX : fixBits ps = X at hb hp ⊢
  generalize bitsOf (pack X) = bs at hb hp ⊢
  rw [← hX] at hb ⊢
  unfold fixBits at hb ⊢
  obtain ⟨b1, b2⟩ := hb.app
  have q1 := b1.len hp
  rw [digits_len] at b2 q1
  obtain ⟨b2, b3⟩ := b2.app
  have q2 := b2.len q1
  rw [digits_len] at b3 q2
  have hge := expand_ge ps [] hok
  rw [he] at hge
  simp at hge
  have e : run bs most (infPr F (F' + 1)) 0 [] = run bs most (symPr fixedL fixedD F .done) (0 + 1 + 2) [] := by
    rw [infPr, run_take_dig (by omega) (by omega) hp b1]
    unfold blockPr
    rw [run_take_dig (by omega) (by omega) q1 b2, if_neg (by decide), if_pos rfl, if_neg (by decide)]
  rw [← hF'] at e
  rw [e, sym_back fixedL_chk fixedD_chk (fixedL_has (by omega)) ps [] _ F q2 (fixed_has hok) hok b3 (by omega) (by rw [he]; exact hm), he, run]
  simp only [List.length_append, digits_len]
  congr 1
  omega

theorem dyn_back {lz dz tz : List Int} {c : Nat} {ss : List Step} (ht : TellOk lz dz tz c ss) {ps : List Piece} {b : List Int} (hok : PiecesOk ps []) (he : expand ps [] = b) (hd : chk dz = 0) (hh : ∀ x ∈ ps, PieceHas lz dz x) (h256 : Has lz 256) {most F : Nat} (hm : b.length ≤ most) (hF : b.length + 316 < F) :
    run (bitsOf (pack (dynBits lz dz tz c ss ps))) most (infPr F F) 0 [] = .ok b (dynBits lz dz tz c ss ps).length := by
  obtain ⟨F', hF'⟩ : ∃ F', F = F' + 1 := ⟨F - 1, by omega⟩
  have hb := beg_pack (dynBits lz dz tz c ss ps) (dynBits lz dz tz c ss ps) [] (by simp)
  have hp : 0 ≤ (bitsOf (pack (dynBits lz dz tz c ss ps))).length := Nat.zero_le _
  generalize hX : dynBits lz dz tz c ss ps = X at hb hp ⊢
  generalize bitsOf (pack X) = bs at hb hp ⊢
  rw [← hX] at hb ⊢
  unfold dynBits at hb ⊢
  obtain ⟨b1, b2⟩ := hb.app
  have q1 := b1.len hp
  rw [digits_len] at b2 q1
  obtain ⟨b2, b3⟩ := b2.app
  have q2 := b2.len q1
  rw [digits_len] at b3 q2
  obtain ⟨b3, b4⟩ := b3.app
  have q3 := b3.len q2
  have hge := expand_ge ps [] hok
  rw [he] at hge
  simp at hge
  have e : run bs most (infPr F (F' + 1)) 0 [] = run bs most (lensPr F fun lits dists => symPr lits dists F .done) (0 + 1 + 2) [] := by
    rw [infPr, run_take_dig (by omega) (by omega) hp b1]
    unfold blockPr
    rw [run_take_dig (by omega) (by omega) q1 b2, if_neg (by decide), if_neg (by decide), if_pos rfl, if_neg (by decide)]
  rw [← hF'] at e
  rw [e, tell_back ht q2 b3 (by omega), sym_back (full_parts ht.lf).2.2.2 hd h256 ps [] _ F q3 hh hok b4 (by omega) (by rw [he]; exact hm), he, run]
  simp only [List.length_append, digits_len]
  congr 1
  omega

/-- A stored block, and all of them. -/
def stOne (last : Int) (b : List Int) : List Int := last :: (b.length : Int) % 256 :: (b.length : Int) / 256 :: (65535 - (b.length : Int)) % 256 :: (65535 - (b.length : Int)) / 256 :: b
def stAll : Nat → List Int → List Int
  | 0, _ => []
  | f + 1, b => if b.length ≤ 65535 then stOne 1 b else stOne 0 (b.take 65535) ++ stAll f (b.drop 65535)

theorem mod_div (k n v : Nat) : v % 2 ^ (k + 1 + n) / 2 ^ k % 2 = v / 2 ^ k % 2 := by
  rw [show 2 ^ (k + 1 + n) = 2 ^ k * (2 * 2 ^ n) from by rw [Nat.pow_add, Nat.pow_succ, Nat.mul_assoc], Nat.mod_mul_right_div_self, Nat.mod_mul_right_mod]
theorem low_byte (k n v : Nat) : low ((v : Int) % 2 ^ (k + 1 + n) / 2 ^ k) = low ((v : Int) / 2 ^ k) := by
  have h := mod_div k n v
  unfold low
  have e : (v : Int) % 2 ^ (k + 1 + n) / 2 ^ k % 2 = (v : Int) / 2 ^ k % 2 := by exact_mod_cast congrArg (fun x : Nat => (x : Int)) h
  rw [e]
theorem digits_16 {v : Int} (h0 : 0 ≤ v) (h1 : v ≤ 65535) : digits v 16 = bitsOf [v % 256, v / 256] := by
  obtain ⟨n, rfl⟩ := Int.eq_ofNat_of_zero_le h0
  have hn : n < 65536 := by omega
  apply List.ext_getElem
  · rw [digits_len, bitsOf_len]; rfl
  · intro i h2 h3
    rw [digits_len] at h2
    rw [bitsOf_get]
    have e1 : (digits (n : Int) 16)[i]'(by rw [digits_len]; exact h2) = low ((n : Int) / 2 ^ i) := by simp [digits, tab]
    rw [e1]
    by_cases h8 : i < 8
    · rw [show i / 8 = 0 from by omega, show i % 8 = i from by omega]
      show _ = low ((n : Int) % 256 / 2 ^ i)
      have := low_byte i (7 - i) n
      rw [show i + 1 + (7 - i) = 8 from by omega] at this
      exact this.symm
    · rw [show i / 8 = 1 from by omega, show i % 8 = i - 8 from by omega]
      show _ = low ((n : Int) / 256 / 2 ^ (i - 8))
      rw [Int.ediv_ediv_of_nonneg (by decide), show (256 : Int) * 2 ^ (i - 8) = 2 ^ i from by rw [show (256 : Int) = 2 ^ 8 from rfl, ← Int.pow_add]; congr 1; omega]

/-- The bits up to a byte's end. -/
def fill (bs : List Bool) : List Bool := bs ++ List.replicate (8 * ((bs.length + 7) / 8) - bs.length) false
theorem fill_pack (bs : List Bool) : bitsOf (pack bs) = fill bs := bitsOf_pack bs
theorem st_head (ys : List Int) {last : Int} (h : last = 0 ∨ last = 1) : fill (bitsOf ys ++ digits last 1 ++ digits 0 2) = bitsOf (ys ++ [last]) := by
  unfold fill
  have hl : (bitsOf ys ++ digits last 1 ++ digits 0 2).length = 8 * ys.length + 3 := by rw [List.length_append, List.length_append, bitsOf_len, digits_len, digits_len]
  rw [hl, show 8 * ((8 * ys.length + 3 + 7) / 8) - (8 * ys.length + 3) = 5 from by omega, bitsOf_app, List.append_assoc, List.append_assoc]
  congr 1
  rcases h with rfl | rfl <;> decide +kernel
theorem st_nums (ys : List Int) (last : Int) (n : Nat) (hn : n ≤ 65535) (zs : List Int) : bitsOf (ys ++ [last]) ++ digits n 16 ++ digits (65535 - (n : Int)) 16 ++ bitsOf zs = bitsOf (ys ++ (last :: (n : Int) % 256 :: (n : Int) / 256 :: (65535 - (n : Int)) % 256 :: (65535 - (n : Int)) / 256 :: zs)) := by
  rw [digits_16 (by omega) (by omega), digits_16 (by omega) (by omega), ← bitsOf_app, ← bitsOf_app, ← bitsOf_app]
  congr 1
  simp
theorem stOne_bd {last : Int} (h : last = 0 ∨ last = 1) {b : List Int} (hl : b.length ≤ 65535) (hb : ∀ z ∈ b, 0 ≤ z ∧ z ≤ 255) : ∀ z ∈ stOne last b, 0 ≤ z ∧ z ≤ 255 := by
  intro z hz
  unfold stOne at hz
  simp only [List.mem_cons] at hz
  rcases hz with rfl | rfl | rfl | rfl | rfl | hz
  · omega
  · omega
  · omega
  · omega
  · omega
  · exact hb z hz
theorem stOne_len (last : Int) (b : List Int) : (stOne last b).length = b.length + 5 := by simp [stOne]

/-- One stored block is unpacked as it was. -/
theorem st_back {b : List Int} (hl : b.length ≤ 65535) (hb : ∀ z ∈ b, 0 ≤ z ∧ z ≤ 255) {most F : Nat} (hm : b.length ≤ most) (hF : 0 < F) :
    run (bitsOf (stOne 1 b)) most (infPr F F) 0 [] = .ok b (8 * (stOne 1 b).length) := by
  obtain ⟨F', hF'⟩ : ∃ F', F = F' + 1 := ⟨F - 1, by omega⟩
  have hlen : (bitsOf (stOne 1 b)).length = 8 * (b.length + 5) := by rw [bitsOf_len, stOne_len]
  have e0 : bitsOf (stOne 1 b) = digits 1 1 ++ (digits 0 2 ++ (List.replicate 5 false ++ (digits (b.length : Nat) 16 ++ (digits (65535 - (b.length : Int)) 16 ++ bitsOf b)))) := by
    have h1 := st_nums [] 1 b.length hl b
    have h2 : bitsOf ([] ++ [(1 : Int)]) = digits 1 1 ++ digits 0 2 ++ List.replicate 5 false := by decide +kernel
    rw [h2, List.nil_append] at h1
    unfold stOne
    rw [← h1]
    simp only [List.append_assoc]
  have B0 : Beg (bitsOf (stOne 1 b)) 0 (digits 1 1 ++ (digits 0 2 ++ (List.replicate 5 false ++ (digits (b.length : Nat) 16 ++ (digits (65535 - (b.length : Int)) 16 ++ bitsOf b))))) := ⟨[], by rw [List.drop_zero, List.append_nil]; exact e0⟩
  have ebytes : bytesAt (bitsOf (stOne 1 b)) 40 b.length = b := by
    have h1 := bytesAt_eq (stOne 1 b) 5 b.length (by rw [stOne_len]; omega) (stOne_bd (Or.inr rfl) hl hb)
    rw [show 8 * 5 = 40 from rfl] at h1
    rw [h1]
    show (b).take b.length = b
    exact List.take_length
  rw [stOne_len]
  generalize bitsOf (stOne 1 b) = bs at hlen B0 ebytes ⊢
  have hp : 0 ≤ bs.length := Nat.zero_le _
  obtain ⟨b1, b2⟩ := B0.app
  have q1 := b1.len hp
  rw [digits_len] at b2 q1
  obtain ⟨b2, b3⟩ := b2.app
  have q2 := b2.len q1
  rw [digits_len] at b3 q2
  obtain ⟨b3, b4⟩ := b3.app
  have q3 := b3.len q2
  rw [List.length_replicate] at b4 q3
  obtain ⟨b4, b5⟩ := b4.app
  have q4 := b4.len q3
  rw [digits_len] at b5 q4
  obtain ⟨b5, b6⟩ := b5.app
  have q5 := b5.len q4
  rw [digits_len] at b6 q5
  have e : run bs most (infPr F (F' + 1)) 0 [] = .ok b (8 * (b.length + 5)) := by
    rw [infPr, run_take_dig (by omega) (by omega) hp b1]
    unfold blockPr
    rw [run_take_dig (by omega) (by omega) q1 b2, if_pos rfl]
    unfold storedPr
    rw [run, show alignUp (0 + 1 + 2) = 0 + 1 + 2 + 5 from rfl]
    rw [run_take_dig (by omega) (by omega) q3 b4, run_take_dig (by omega) (by omega) q4 b5, if_neg (by omega), run]
    rw [show alignUp (0 + 1 + 2 + 5 + 16 + 16) = 40 from rfl, Int.toNat_natCast, if_pos (by omega), run, ebytes, if_pos (by simpa using hm), if_neg (by decide), run, List.nil_append]
    congr 1
    omega
  rw [← hF'] at e
  exact e

end Go.Proofs.YtolcdlopgbgilaaGreatDoor
