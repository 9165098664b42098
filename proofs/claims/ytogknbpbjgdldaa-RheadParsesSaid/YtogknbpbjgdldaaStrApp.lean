/- 'append(b, s...)', s a text, onto a slice of the call's own. -/
import Derived.Test.YtogknbpbjgdldaaBase
import Derived.Lib.AppendStr
namespace Go.Dray
open Go.RowKit

/-- A text's bytes. -/
def sb (s : ByteArray) : List Int := s.data.toList.map fun b => (b.toNat : Int)
theorem sb_len (s : ByteArray) : (sb s).length = s.size := by unfold sb; rw [List.length_map, Array.length_toList]; rfl
theorem sb_bd (s : ByteArray) : ∀ z ∈ sb s, 0 ≤ z ∧ z ≤ 255 := by
  intro z hz
  unfold sb at hz
  obtain ⟨b, _, rfl⟩ := List.mem_map.1 hz
  have := b.toNat_lt
  omega
theorem strCells_sb (s : ByteArray) : Lib.strCells s = (sb s).map (Value.int .u8) := by simp [Lib.strCells, sb]

theorem run_app_str {P : Program} {w : World} {B : Nat} {t u ty e : TypeId} (el : El P t e (.int .u8 0) 1 1) (hu : P.underlying u = some .string)
    {A : Option Addr} {n c : Nat} {xs : List Value} (hown : Own w B e 1 A n c xs) (s : ByteArray) (hmax : n + s.size ≤ maxLen) (hbytes : n + s.size ≤ 140737488355328) (hB : B ≤ w.heap.size) :
    ∃ A' c' w', (Builtin.append_ #[t, u] ty #[.slice A n c, .string s]).run P w = .ok (.slice A' (n + s.size) c') w' ∧ Own w' B e 1 A' (n + s.size) c' (xs ++ (sb s).map (Value.int .u8)) ∧ Upd [ob A] w w' ∧ Fresh w A A' := by
  obtain ⟨i, hi, hz, hs, hb⟩ := info_get el
  obtain ⟨v', w', hr, h2, h3, _⟩ := Lib.run_append_own_string (P := P) w B t u ty e i el.under hu hi hz hs hb (.slice A n c) n xs hown s hmax hbytes hB
  have hrow : (Value.slice A n c).ownBlock = ob A := by cases A <;> rfl
  rw [hrow] at h3
  have hv : ∃ A' c', v' = .slice A' (n + s.size) c' := by
    rcases h2.2 with ⟨h, h0⟩ | ⟨g, cap, cur, h, _⟩
    · exact ⟨none, 0, by rw [h, h0]⟩
    · exact ⟨_, _, h⟩
  obtain ⟨A', c', rfl⟩ := hv
  rw [strCells_sb] at h2
  refine ⟨A', c', w', hr, h2, Upd.ofGrown h3, fun g hg => ?_⟩
  have h63 : maxLen = 9223372036854775807 := rfl
  rcases hown.cases.2.2.2 with ⟨rfl, rfl, rfl⟩ | ⟨g0, cur, rfl, hbg, hblk, hcs, htk⟩
  · rcases Nat.eq_zero_or_pos s.size with h0 | h0
    · rcases Own.cases h2 with ⟨_, _, _, ⟨rfl, _⟩ | ⟨g1, cur1, rfl, hB1, hb1, _⟩⟩
      · cases hg
      · right
        have hr2 : (Builtin.append_ #[t, u] ty #[.slice none 0 0, .string s]).run P w = .ok (.slice none 0 0) w := by
          have hf := Lib.run_firstCells_string (P := P) w 1 s
          rw [h0] at hf
          have hn : Lib.strCells s = [] := List.eq_nil_of_length_eq_zero (by rw [Lib.strCells_length]; exact h0)
          simp [Builtin.append_, run_underlying el.under, run_underlying hu, sizeOf, typeInfo, hi, hs, Builtin.lenOf, h0, hf]
        rw [hr2] at hr
        injection hr with hr
        injection hr with hr
        cases hr
    · have hr2 := run_append_nil_string (P := P) w t u ty e i (.int .u8 0) el.under hu hi hz s h0 (by omega) (by rw [hb]; omega)
      rw [hr2] at hr
      injection hr with hr
      injection hr with hr _ _
      subst hr
      injection hg with hg
      right
      exact Nat.le_of_eq hg
  · by_cases hroom : n + s.size ≤ c
    · have hr2 := Lib.run_append_room_string (P := P) w t u ty e i el.under hu hi hs g0 n c cur hblk s hroom (by rw [hcs]; omega)
      rw [hr2] at hr
      injection hr with hr
      injection hr with hr _ _
      subst hr
      left
      exact hg
    · have hxl : xs.length = n := by have := hown.len; omega
      have hr2 := Lib.run_append_grow_string (P := P) w t u ty e i (.int .u8 0) el.under hu hi hz ⟨g0, 0, none⟩ n c xs (by rw [hs]; omega)
        (fun j v hv => by
          have := hown.seg.cell j v hv
          rw [Addr.add_lit]
          exact this) s (by omega) (by omega) (by rw [hb]; exact growslice_fits (by omega) (by omega))
      rw [hr2] at hr
      injection hr with hr
      injection hr with hr _ _
      subst hr
      injection hg with hg
      right
      exact Nat.le_of_eq hg

theorem wpList_appS {P : Program} {w : World} {ops : Array Oper} {rest : List Oper} {o : Oper} {a : Act} {Q : Exit → Act → World → Prop} (hgd : o.guard = none) {sl x : Operand} {t u : TypeId}
    (ho : o.op = .call { callee := .builtin .append, args := #[sl, x], argTypes := #[t, u] })
    {B : Nat} {e : TypeId} (el : El P t e (.int .u8 0) 1 1) (hu : P.underlying u = some .string)
    {A : Option Addr} {n c : Nat} {xs : List Value} (hs : a.eval sl = .slice A n c) (hown : Own w B e 1 A n c xs) {s : ByteArray} (hx : a.eval x = .string s)
    (hmax : n + s.size ≤ maxLen) (hbytes : n + s.size ≤ 140737488355328) (hB : B ≤ w.heap.size)
    (h : ∀ A' c' w', Own w' B e 1 A' (n + s.size) c' (xs ++ (sb s).map (Value.int .u8)) → Upd [ob A] w w' → Fresh w A A' → wpList P ops Q rest (a.put o.dst (.slice A' (n + s.size) c')) w') : wpList P ops Q (o :: rest) a w := by
  refine wpList_plain hgd fun K hK => ?_
  obtain ⟨A', c', w', hr, h2, h3, h4⟩ := run_app_str (P := P) (ty := o.type) el hu hown s hmax hbytes hB
  unfold Oper.wp execOp
  simp only [ho, resolve, invoke, builtin, Sem.run_bind, Sem.run_pure, Result.andThen_ok, List.map_toArray, List.map_cons, List.map_nil, hs, hx, hr]
  exact hK _ _ (h A' c' w' h2 h3 h4)

end Go.Dray
