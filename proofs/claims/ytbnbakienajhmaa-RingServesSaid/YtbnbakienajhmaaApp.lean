/- append of one number to a row of the call's own. -/
import Derived.Test.YtbnbakienajhmaaEnv
import Derived.Test.YtbnbakienajhmaaOpen
namespace Go.Proofs.Ytbnbakienajhmaa
open Go.RowKit
set_option linter.unusedVariables false

theorem info_int : (Try.prog.info? 3).map (fun i => (i.zero, i.size, i.bytes)) = some (some (.int .i64 0), 1, 8) := by kernel_rfl
/-- The row of numbers that the call has laid itself. -/
def OwnInts (w : World) (base : Nat) (v : Value) (zs : List Int) : Prop := w.ownsRow base 3 1 v zs.length (zs.map (Value.int .i64))
theorem OwnInts.nil (w : World) (base : Nat) : OwnInts w base (.slice none 0 0) [] := ⟨rfl, .inl ⟨rfl, rfl⟩⟩
theorem OwnInts.opened {w : World} {base : Nat} {v : Value} {zs : List Int} (h : OwnInts w base v zs) : ∃ a cap, v = .slice a zs.length cap ∧ Ints w a zs := by
  obtain ⟨a, cap, rfl, _, hi⟩ := ints_of_own h
  exact ⟨a, cap, rfl, hi⟩
theorem OwnInts.below {w w' : World} {base : Nat} {v : Value} {zs : List Int} (h : OwnInts w base v zs) (hb : Below w.heap.size w w') : OwnInts w' base v zs := by
  obtain ⟨h1, h⟩ := h
  refine ⟨h1, ?_⟩
  rcases h with h | ⟨g, cap, cur, e, hg, hc, h3, h4, h5, h6⟩
  · exact .inl h
  · exact .inr ⟨g, cap, cur, e, hg, by rw [hb.block _ (Array.getElem?_eq_some_iff.1 hc).1]; exact hc, h3, h4, h5, h6⟩
theorem OwnInts.up {W : World} {base : Nat} {v : Value} {zs : List Int} (h : OwnInts W base v zs) (u : Up W) : OwnInts u.w base v zs := h.below u.bel
theorem OwnInts.alloc {w : World} {base : Nat} {v : Value} {zs : List Int} (h : OwnInts w base v zs) (o : Obj) : OwnInts (w.alloc o) base v zs := h.below ((Below.refl _ _).alloc (Nat.le_refl _) o)
theorem wpList_app_int {ops : Array Oper} {rest : List Oper} {o : Oper} {a : Act} {w : World} {Q : Exit → Act → World → Prop} (hgd : o.guard = none) (s x : Operand)
    (ho : o.op = .call { callee := .builtin .append, args := #[s, x], argTypes := #[22, 22] })
    (base : Nat) {v : Value} {zs : List Int} (hs : a.eval s = v) (hown : OwnInts w base v zs)
    {b : Nat} {y : Int} (hx : a.eval x = .slice (some ⟨b, 0, none⟩) 1 1) (hc : w.cell? ⟨b, 0, none⟩ = some (.int .i64 y)) (hn : zs.length ≤ 1000000) (hbase : base ≤ w.heap.size)
    (h : ∀ v' w', OwnInts w' base v' (zs ++ [y]) → w.grownBy w' v.ownBlock → wpList Try.prog ops Q rest (a.put o.dst v') w') : wpList Try.prog ops Q (o :: rest) a w := by
  obtain ⟨i0, hinfo, hz0, hz1, hz2⟩ := info_parts info_int
  refine wpList_append_own w hgd s x 22 ho base 3 i0 (.int .i64 0) 1 8 Try.underlying22 hinfo hz0 hz1 hz2 rfl (by decide) v zs.length _ hs hown ⟨b, 0, none⟩ 1 1 [.int .i64 y] hx rfl ?_ ?_ ?_ ?_ hbase (fun v' w' h1 h2 _ => h v' w' ?_ h2)
  · intro j u hj; match j, hj with | 0, hj => simp at hj; subst hj; simp [Addr.add]; exact hc
  · simp [Value.oneCell']
  · unfold maxLen; omega
  · omega
  · unfold OwnInts; simpa using h1
/-- An append to a row of the call's own leaves what lies below its base. -/
theorem OwnInts.grown {B : Nat} {w0 wr w1 : World} {o : Obj} {v : Value} {zs : List Int} {base : Nat} (hown : OwnInts wr base v zs) (hb : Below B w0 wr) (hB : B ≤ wr.heap.size) (hbase : B ≤ base) (hg : (wr.alloc o).grownBy w1 v.ownBlock) : Below B w0 w1 := by
  refine (hb.alloc hB o).grown hg (by simp; omega) (fun k hk => ?_)
  rcases hown.2 with ⟨rfl, _⟩ | ⟨g, cap, cur, rfl, hg, _⟩
  · simp [Value.ownBlock] at hk
  · simp [Value.ownBlock] at hk; omega
theorem ints_new {w : World} {b : Nat} {cs : Array Value} {t : TypeId} (zs : List Int) (hb : b = w.heap.size) (h : cs = (zs.map (Value.int .i64)).toArray) : Ints (w.alloc (.cells cs t)) (some ⟨b, 0, none⟩) zs := by
  subst hb h
  right
  refine ⟨_, 0, rfl, by simp, fun i hi => ?_⟩
  rw [World.cell?_alloc_at _ _ _ _ rfl]
  simp [hi, List.getD]
end Go.Proofs.Ytbnbakienajhmaa
