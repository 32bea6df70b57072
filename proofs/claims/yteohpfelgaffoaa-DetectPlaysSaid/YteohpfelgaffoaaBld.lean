/- A region that draws its order, with one slice built of known elements among reads and calls; what follows (an append, a store) is forced. -/
import Derived.Test.YteohpfelgaffoaaOdd
import Derived.Test.YteohpfelgaffoaaRk
namespace Go.Proofs.Yteohpfelgaffoaa
open Go.RowKit
set_option linter.unusedVariables false

/-- A slice of m elements that was built in the region, somewhere: over this object. -/
def LaidS (W : World) (m : Nat) (o : Obj) (v : Value) (w : World) : Prop := ∃ q, v = .slice (some ⟨q, 0, none⟩) m m ∧ W.heap.size ≤ q ∧ w.heap[q]? = some o
theorem LaidS.keeps {W : World} {m : Nat} {o : Obj} (v : Value) (w w' : World) (h : LaidS W m o v w) (hb : Below w.heap.size w w') : LaidS W m o v w' := by
  obtain ⟨q, hv, hq, hc⟩ := h
  exact ⟨q, hv, hq, by rw [hb.block _ (Array.getElem?_eq_some_iff.1 hc).1]; exact hc⟩
theorem wp_region_up_build {P : Program} {id : Nat} {Q : Exit → Act → World → Prop} {a : Act} {w : World} {l : List Oper} (n h m : Nat) (o : Obj) {oh : Oper} (hm : P.follows .mixedOrders = true) (hB : lexOddB .any l.toArray n h = true)
    (hoh : l[h]? = some oh) (hg : oh.guard = none)
    (H : ∀ X : Up w, wpQuiet P l.toArray (fun w' => ∃ u : Up X.w, w' = u.w) (fun a' => (∀ u : Up w, (execOp a'.eval oh).run P u.w = .ok (.value (.slice (some ⟨u.w.heap.size, 0, none⟩) m m)) (u.w.alloc o)) ∧
      ∀ (q : Nat) (u : Up w), w.heap.size ≤ q → u.w.heap[q]? = some o → wpList P l.toArray Q (l.drop n) (a'.put oh.dst (.slice (some ⟨q, 0, none⟩) m m)) u.w) ((l.take n).eraseIdx h) a) : (Code.region id l.toArray true).wp P Q a w :=
  wp_region_up_odd n h oh (LaidS w m o) hm hB hoh LaidS.keeps fun X => wpQuiet_mono (fun a' h' => ⟨⟨by simp [Region.wanted, hg], fun u => by
    rw [h'.1 u]; exact ⟨⟨_, rfl, u.bel.size, heap_alloc_here u.w o⟩, (Below.refl _ _).alloc (Nat.le_refl _) _⟩⟩, by
    rintro _ u ⟨q, rfl, hq, hc⟩; exact h'.2 q u hq hc⟩) _ _ (H X)
theorem cells_blk {w : World} {q : Nat} (l : List Value) {t : TypeId} (h : w.heap[q]? = some (.cells l.toArray t)) : ∀ j u, l[j]? = some u → w.cell? ⟨q, j, none⟩ = some u := fun j u hj => laid_cell h j (by simpa using hj)
end Go.Proofs.Yteohpfelgaffoaa
