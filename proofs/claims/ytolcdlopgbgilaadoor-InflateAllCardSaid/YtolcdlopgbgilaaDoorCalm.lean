/- A region that draws its order and whose callees lay new blocks alone: one walk in the text's order. -/
import Derived.Test.YtolcdlopgbgilaaDoorBase
import Derived.Deep.RegionLaw
namespace Go.Dray
open Go.RowKit

/-- A world that has come out of w by new blocks (and draws) alone. -/
structure Ltr (w : World) where
  to : World
  upd : Upd [] w to
instance (w : World) : Nonempty (Ltr w) := ⟨⟨w, Upd.refl _ _⟩⟩
def later (w : World) (x : Ltr w) : World := x.to
theorem later_upd (w : World) (x : Ltr w) : Upd [] w (later w x) := x.upd
theorem later_cell {w : World} {p : Addr} {v : Value} (h : w.cell? p = some v) (x : Ltr w) : (later w x).cell? p = some v := (later_upd w x).cell h (by simp)

theorem wp_region_later {P : Program} {id : Nat} {Q : Exit → Act → World → Prop} {a : Act} {w : World} {l : List Oper} (hm : P.follows .mixedOrders = true) (hB : Region.lexB .any l.toArray = true)
    (h : wpQuiet P l.toArray (fun w' => ∃ x, w' = later w x) (fun a' => ∀ w', (∃ x, w' = later w x) → Q .normal a' w') l a) : (Code.region id l.toArray true).wp P Q a w :=
  wp_region_quiet (C := fun w' => ∃ x, w' = later w x) hm hB ⟨⟨w.drew, (Upd.refl _ _).drew⟩, rfl⟩ (by simpa using h)

/-- A callee that lays new blocks alone. -/
theorem laterU {P : Program} {f : FuncId} {args : Array Value} {w : World} {x : Ltr w} {v : Value} (h : Calls P f args (later w x) fun e w' => e = .returned v ∧ Upd [] (later w x) w') :
    Calls P f args (later w x) fun e w'' => e = .returned v ∧ ∃ m, w'' = later w m := h.mono fun _ w' ⟨he, hm⟩ => ⟨he, ⟨w', (later_upd w x).trans hm⟩, rfl⟩
/-- A callee that leaves the world alone. -/
theorem laterL {P : Program} {f : FuncId} {args : Array Value} {w : World} {x : Ltr w} {v : Value} (h : Calls P f args (later w x) fun e w' => e = .returned v ∧ later w x = w') :
    Calls P f args (later w x) fun e w'' => e = .returned v ∧ ∃ m, w'' = later w m := h.mono fun _ _ ⟨he, hm⟩ => ⟨he, x, hm.symm⟩

/-- 'append' as a step of a region that draws its order (for go_region_law). -/
theorem step_app {P : Program} {w : World} {ops : Array Oper} {o : Oper} {a : Act} {K : Act → World → Prop} {Q : Exit → Act → World → Prop} {E : Prop} (hgd : o.guard = none) {s x : Operand} {t : TypeId}
    (ho : o.op = .call { callee := .builtin .append, args := #[s, x], argTypes := #[t, t] })
    {B : Nat} {e : TypeId} {z : Value} {sz bytes : Nat} (el : El P t e z sz bytes)
    {A : Option Addr} {n c : Nat} {xs : List Value} (hs : a.eval s = .slice A n c) (hown : Own w B e sz A n c xs) {A2 : Option Addr} {m c2 : Nat} {news : List Value} (hx : a.eval x = .slice A2 m c2) (hr : Seg w sz A2 m news)
    (h1 : ∀ u ∈ news, u.oneCell' = true) (hmax : n + m ≤ maxLen) (hbytes : (n + m) * bytes ≤ 140737488355328) (hB : B ≤ w.heap.size)
    (h : ∀ A' c' w', Own w' B e sz A' (n + m) c' (xs ++ news) → Upd [ob A] w w' → Fresh w A A' → K (a.put o.dst (.slice A' (n + m) c')) w') :
    if Region.wanted o (yielded ops a.tmps) = true then Oper.wp P o a w K Q else E := by
  rw [if_pos (by simp [Region.wanted, hgd])]
  exact wp_app ho el hs hown hx hr h1 hmax hbytes hB h

end Go.Dray
