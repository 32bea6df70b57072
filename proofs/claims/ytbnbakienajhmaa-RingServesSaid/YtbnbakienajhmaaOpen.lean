/- How the arguments of a call are opened: plain cells, structs by value, slices of plain cells. No function of the program is walked here. -/
import Derived.Test.YtbnbakienajhmaaUp
import Derived.WalkKit
import Derived.ProofKit
import Derived.OpenShut
import Derived.ChangeOld
import Derived.Below
import Derived.Deep.Slices
import Derived.Deep.QuietTactic
import Derived.BigQuiet
import Derived.WalkSpells
import Derived.WalkLawsBesides
import Derived.Lib.Hide
import Derived.Handy
import Derived.OwnWalk
namespace Go.Proofs.Ytbnbakienajhmaa
open Go.ChangeShapes Go.WideShapes Go.ChangeAt Go.RowKit
set_option linter.unusedVariables false

theorem own : ownKnob Try.prog.godebug = none := by kernel_rfl
theorem laidOut : laidOutB Try.prog = true := by kernel_rfl

theorem ret_int {k : IntKind} {a b : Int} (h : a = b) : Ending.returned (.int k a) = .returned (.int k b) := by rw [h]
theorem ret_bool {a b : Bool} (h : a = b) : Ending.returned (.bool a) = .returned (.bool b) := by rw [h]

/-- What the whole numbers of a kind are. -/
def InKind : IntKind → Int → Prop
  | .i64, n => -9223372036854775808 ≤ n ∧ n ≤ 9223372036854775807
  | .u8, n => 0 ≤ n ∧ n ≤ 255
  | .u16, n => 0 ≤ n ∧ n ≤ 65535
  | _, _ => True
theorem inKind_of_wf {k : IntKind} {n : Int} (h : (Lit.int k n).wf = true) : InKind k n := by
  cases k <;> first | trivial | exact bounds_i64 h | exact bounds_u8 h | exact bounds_u16 h
theorem inKind_of_has {k : IntKind} {n : Int} (h : k.has n) : InKind k n := by
  cases k <;> first | trivial | (simp [IntKind.has, IntKind.min, IntKind.max, IntKind.signed, IntKind.bits] at h; simp [InKind]; omega)

/-- What a cell of a plain type holds. -/
def Fit (P : Program) (t : TypeId) (v : Value) : Prop :=
  match P.underlying t with
  | some .bool => ∃ b, v = .bool b
  | some (.int k) => ∃ n, v = .int k n ∧ InKind k n
  | some (.float .f64) => ∃ b, v = .float .f64 b ∧ b < 18446744073709551616
  | some (.slice _) => ∃ a len cap, v = .slice a len cap ∧ len ≤ cap ∧ cap ≤ 9223372036854775807
  | _ => True
theorem Fit.int {P : Program} {t : TypeId} {v : Value} {k : IntKind} (h : Fit P t v) (ht : P.underlying t = some (.int k)) : ∃ n, v = .int k n ∧ InKind k n := by
  unfold Fit at h; rw [ht] at h; exact h
theorem Fit.bool {P : Program} {t : TypeId} {v : Value} (h : Fit P t v) (ht : P.underlying t = some .bool) : ∃ b, v = .bool b := by
  unfold Fit at h; rw [ht] at h; exact h
theorem Fit.float {P : Program} {t : TypeId} {v : Value} (h : Fit P t v) (ht : P.underlying t = some (.float .f64)) : ∃ b, v = .float .f64 b ∧ b < 18446744073709551616 := by
  unfold Fit at h; rw [ht] at h; exact h
theorem Fit.slice {P : Program} {t : TypeId} {v : Value} {e : TypeId} (h : Fit P t v) (ht : P.underlying t = some (.slice e)) : ∃ a len cap, v = .slice a len cap ∧ len ≤ cap ∧ cap ≤ 9223372036854775807 := by
  unfold Fit at h; rw [ht] at h; exact h

theorem fit_of_cell {P : Program} {w : World} {r : Reach} {base : Nat} {t : TypeId} {v : Value} (h : Cell.okWide P w r base t v) : Fit P t v := by
  unfold Fit
  split
  · rename_i ht
    unfold Cell.okWide Cell.ok at h; rw [ht] at h
    cases v <;> simp at h ⊢
  · rename_i ht
    unfold Cell.okWide Cell.ok at h; rw [ht] at h
    cases v <;> simp at h ⊢
    obtain ⟨rfl, hb⟩ := h
    exact ⟨_, ⟨rfl, rfl⟩, inKind_of_has hb⟩
  · rename_i ht
    unfold Cell.okWide Cell.ok at h; rw [ht] at h
    cases v <;> simp at h ⊢
    obtain ⟨rfl, hb⟩ := h
    exact ⟨_, ⟨rfl, rfl⟩, hb⟩
  · rename_i ht
    unfold Cell.okWide Cell.ok at h; rw [ht] at h
    cases v with
    | slice a len cap =>
      refine ⟨a, len, cap, rfl, ?_⟩
      cases a with
      | none =>
        simp only [] at h
        split at h <;> simp_all
      | some a =>
        simp [IntKind.max, IntKind.signed, IntKind.bits] at h
        omega
    | _ => simp at h
  · trivial

theorem fit_of_okWide {P : Program} {w : World} {r : Reach} {base : Nat} {t : TypeId} {v : Value} (h : Value.okWide P w r base t v)
    (hs : ∀ fs, P.underlying t ≠ some (.struct fs)) (ha : ∀ n e, P.underlying t ≠ some (.array n e)) : Fit P t v := by
  refine fit_of_cell (w := w) (r := r) (base := base) ?_
  unfold Value.okWide at h
  split at h
  · rename_i ht; exact absurd ht (hs _)
  · rename_i ht; exact absurd ht (ha _ _)
  · exact h

theorem open_int1 {P : Program} {w : World} {r : Reach} {base : Nat} {t : TypeId} {v : Value} {k : IntKind} (ht : P.underlying t = some (.int k)) (h : Value.okWide P w r base t v) : ∃ n, v = .int k n ∧ InKind k n :=
  (fit_of_okWide h (by rw [ht]; simp) (by rw [ht]; simp)).int ht
theorem open_bool1 {P : Program} {w : World} {r : Reach} {base : Nat} {t : TypeId} {v : Value} (ht : P.underlying t = some .bool) (h : Value.okWide P w r base t v) : ∃ b, v = .bool b :=
  (fit_of_okWide h (by rw [ht]; simp) (by rw [ht]; simp)).bool ht
theorem open_float1 {P : Program} {w : World} {r : Reach} {base : Nat} {t : TypeId} {v : Value} (ht : P.underlying t = some (.float .f64)) (h : Value.okWide P w r base t v) : ∃ b, v = .float .f64 b ∧ b < 18446744073709551616 :=
  (fit_of_okWide h (by rw [ht]; simp) (by rw [ht]; simp)).float ht

/-- A struct or an array by value: its cells, each of its plain type. -/
theorem open_flat {P : Program} {w : World} {r : Reach} {base : Nat} {t : TypeId} {v : Value} {ts : List TypeId} (hk : (match P.underlying t with | some (.struct _) | some (.array _ _) => true | _ => false) = true)
    (hts : P.cellTypes P.depth t = some ts) (hn : P.cellsOf t = ts.length) (h : Value.okWide P w r base t v) :
    ∃ cs : Array Value, v = .agg cs ∧ cs.size = ts.length ∧ ∀ i (hi : i < cs.size), Fit P (ts.getD i 0) cs[i] := by
  unfold Value.okWide at h
  have main : ∀ {p : Prop}, (∃ cs, v = .agg cs ∧ cs.size = P.cellsOf t ∧ Row.okWide P w r base t cs) →
      ∃ cs : Array Value, v = .agg cs ∧ cs.size = ts.length ∧ ∀ i (hi : i < cs.size), Fit P (ts.getD i 0) cs[i] := by
    intro _ ⟨cs, hv, hsz, ts', hts', _, hc⟩
    rw [hts] at hts'
    obtain rfl := Option.some.inj hts'
    rw [hn] at hsz
    refine ⟨cs, hv, hsz, fun i hi => ?_⟩
    obtain ⟨u, hu, hcell⟩ := hc i cs[i] (by simp [hi])
    rw [Nat.mod_eq_of_lt (by omega)] at hu
    have : ts.getD i 0 = u := by simp [List.getD, hu]
    rw [this]
    exact fit_of_cell hcell
  split at h
  · exact main (p := True) h
  · exact main (p := True) h
  · rename_i h1 h2
    exfalso
    revert hk
    split <;> simp_all

/-- What a slice's header and cells are: the values 'V i' of the elements of one cell each. -/
def Row1 (w : World) (a : Option Addr) (len : Nat) (V : Nat → Value) : Prop :=
  len = 0 ∨ ∃ b off, a = some ⟨b, off, none⟩ ∧ b < w.heap.size ∧ ∀ i, i < len → w.cell? ⟨b, off + i, none⟩ = some (V i)

theorem fit_of_trod1 {H : Type} {enc : TypeId × Value → H} {P : Program} {w : World} {base : Nat} {spare : Nat → Bool} {held : Bool} {n : Nat} {t : TypeId} {v : Value} {x : DataW H × List MemPlace}
    (hp : (match P.underlying t with | some .bool | some (.int _) | some (.float .f64) => true | _ => false) = true)
    (h : DataW.trod enc P w base spare held n t [v] = some x) : Fit P t v := by
  cases n with
  | zero => simp [DataW.trod] at h
  | succ m =>
    unfold DataW.trod at h
    unfold Fit
    split
    · rename_i ht; rw [ht] at h; cases v <;> simp at h ⊢
    · rename_i ht; rw [ht] at h; cases v <;> simp at h ⊢
      obtain ⟨⟨rfl, hw⟩, _⟩ := h
      exact ⟨_, ⟨rfl, rfl⟩, inKind_of_wf hw⟩
    · rename_i ht; rw [ht] at h; cases v <;> simp at h ⊢
      obtain ⟨⟨rfl, hw⟩, _⟩ := h
      refine ⟨_, ⟨rfl, rfl⟩, ?_⟩
      simpa [Lit.wf] using hw
    · rename_i ht; rw [ht] at hp; simp at hp
    · trivial

/-- A slice's header: nil, or at a place that is there. -/
def Hdr (w : World) (a : Option Addr) (cap : Nat) : Prop := (a = none ∧ cap = 0) ∨ ∃ b off, a = some ⟨b, off, none⟩ ∧ b < w.heap.size
theorem hdr_of_cell {P : Program} {w : World} {r : Reach} {base : Nat} {t e : TypeId} {a : Option Addr} {len cap : Nat} (ht : P.underlying t = some (.slice e)) (h : Cell.okWide P w r base t (.slice a len cap)) : Hdr w a cap := by
  unfold Cell.okWide Cell.ok at h; rw [ht] at h
  cases a with
  | none =>
    simp only [] at h
    split at h <;> simp_all [Hdr]
  | some a =>
    simp only [] at h
    obtain ⟨_, _, _, hs, row, cells, hsh, _⟩ := h
    obtain ⟨b, off, spot⟩ := a
    simp only at hs hsh
    subst hs
    refine .inr ⟨b, off, rfl, ?_⟩
    by_cases hb : b < w.heap.size
    · exact hb
    · exfalso
      unfold World.shape? at hsh
      simp [show w.heap[b]? = none by simp; omega] at hsh
theorem hdr_of_okWide {P : Program} {w : World} {r : Reach} {base : Nat} {t e : TypeId} {a : Option Addr} {len cap : Nat} (ht : P.underlying t = some (.slice e)) (h : Value.okWide P w r base t (.slice a len cap)) : Hdr w a cap := by
  refine hdr_of_cell (r := r) (base := base) (len := len) ht ?_
  unfold Value.okWide at h
  rw [ht] at h
  exact h
/-- A slice of plain one-cell elements that came in. -/
theorem open_row1 {H : Type} {enc : TypeId × Value → H} {P : Program} {w : World} {spare : Nat → Bool} {held : Bool} {r : Reach} {base' : Nat} {t e : TypeId} {v : Value} {d : DataW H} {ps : List MemPlace}
    (ht : P.underlying t = some (.slice e)) (hc : P.cellsOf e = 1)
    (hp : (match P.underlying e with | some .bool | some (.int _) | some (.float .f64) => true | _ => false) = true)
    (hval : Value.okWide P w r base' t v) (hd : DataW.Trod enc P w 0 spare held t v d ps) :
    ∃ a len cap V, v = .slice a len cap ∧ len ≤ cap ∧ cap ≤ 9223372036854775807 ∧ Hdr w a cap ∧ Row1 w a len V ∧ ∀ i, i < len → Fit P e (V i) := by
  obtain ⟨a, len, cap, rfl, hl, hm⟩ := (fit_of_okWide hval (by rw [ht]; simp) (by rw [ht]; simp)).slice ht
  have hh := hdr_of_okWide ht hval
  obtain ⟨n, hn⟩ := hd
  rcases Go.Deep.open_slice1 ht hc hn with ⟨hcs, _⟩ | ⟨x, len', cap', m, n', V, D, Pl, hcs, _, hl', hm', hmm, hx, hV⟩
  · simp [Value.cells] at hcs
    obtain ⟨rfl, rfl, rfl⟩ := hcs
    exact ⟨none, 0, 0, fun _ => undef, rfl, hl, hm, hh, .inl rfl, fun i hi => absurd hi (by omega)⟩
  · simp [Value.cells] at hcs
    obtain ⟨rfl, rfl, rfl⟩ := hcs
    have hlm : len ≤ m := by rw [hmm]; split <;> omega
    refine ⟨some x, len, cap, V, rfl, hl, hm, hh, ?_, fun i hi => ?_⟩
    · right
      rcases hh with ⟨hn, _⟩ | ⟨b, off, hx', hb⟩
      · cases hn
      · cases hx'
        refine ⟨b, off, rfl, hb, fun i hi => ?_⟩
        have := (hV i (by omega)).1
        by_cases hi0 : i = 0
        · subst hi0; simpa [Addr.add] using this
        · simpa [Addr.add, hi0] using this
    · exact fit_of_trod1 hp (hV i (by omega)).2

theorem Row1.cell {w : World} {a : Option Addr} {len : Nat} {V : Nat → Value} (h : Row1 w a len V) (h0 : len ≠ 0) :
    ∃ b off, a = some ⟨b, off, none⟩ ∧ b < w.heap.size ∧ ∀ i, i < len → w.cell? ⟨b, off + i, none⟩ = some (V i) := h.resolve_left h0
theorem Row1.below {B : Nat} {w w' : World} {a : Option Addr} {len : Nat} {V : Nat → Value} (h : Row1 w a len V) (hb : Below B w w') (hB : w.heap.size ≤ B) : Row1 w' a len V := by
  rcases h with h | ⟨b, off, ha, hlt, hc⟩
  · exact .inl h
  · exact .inr ⟨b, off, ha, Nat.lt_of_lt_of_le hlt hb.size, fun i hi => by rw [hb.cell (p := ⟨b, off + i, none⟩) (by simp; omega)]; exact hc i hi⟩

theorem Row1.drew {w : World} {a : Option Addr} {len : Nat} {V : Nat → Value} (h : Row1 w a len V) : Row1 w.drew a len V := h.below (B := w.heap.size) (Below.refl _ _).drew (Nat.le_refl _)

theorem Row1.up {w : World} {a : Option Addr} {len : Nat} {V : Nat → Value} (u : Up w) (h : Row1 w a len V) : Row1 u.w a len V := h.below u.bel (Nat.le_refl _)
theorem bcell {W w1 : World} (hb : Below W.heap.size W w1) : (∀ b o, b < W.heap.size → w1.cell? ⟨b, o, none⟩ = W.cell? ⟨b, o, none⟩) ∧ (∀ b o, b < W.heap.size → w1.frozen? ⟨b, o, none⟩ = W.frozen? ⟨b, o, none⟩) :=
  ⟨fun b o h => hb.cell (p := ⟨b, o, none⟩) h, fun b o h => hb.frozen (p := ⟨b, o, none⟩) h⟩

/-- An append to a row of the call's own, behind the block of what is appended. -/
theorem below_append {B : Nat} {w0 wr w1 : World} {o : Obj} {v : Value} {e : TypeId} {size n : Nat} {xs : List Value} (hb : Below B w0 wr) (hB : B ≤ wr.heap.size) (hown : wr.ownsRow B e size v n xs)
    (hg : (wr.alloc o).grownBy w1 v.ownBlock) : Below B w0 w1 := by
  refine (hb.alloc hB o).grown hg (by simp; omega) (fun k hk => ?_)
  rcases hown.2 with ⟨rfl, _⟩ | ⟨g, cap, cur, rfl, hg, _⟩
  · simp [Value.ownBlock] at hk
  · simp [Value.ownBlock] at hk; omega
/-- From an index function to a list of numbers. -/
theorem ints_of {P : Program} {e : TypeId} {k : IntKind} {V : Nat → Value} {len : Nat} (ht : P.underlying e = some (.int k)) (h : ∀ i, i < len → Fit P e (V i)) :
    ∃ zs : List Int, zs.length = len ∧ ∀ i, i < len → V i = .int k (zs.getD i 0) ∧ InKind k (zs.getD i 0) := by
  refine ⟨(List.range len).map fun i => match V i with | .int _ n => n | _ => 0, by simp, fun i hi => ?_⟩
  obtain ⟨n, hv, hn⟩ := (h i hi).int ht
  simp [List.getD, hi, hv, hn]
theorem bools_of {P : Program} {e : TypeId} {V : Nat → Value} {len : Nat} (ht : P.underlying e = some .bool) (h : ∀ i, i < len → Fit P e (V i)) :
    ∃ zs : List Bool, zs.length = len ∧ ∀ i, i < len → V i = .bool (zs.getD i false) := by
  refine ⟨(List.range len).map fun i => match V i with | .bool n => n | _ => false, by simp, fun i hi => ?_⟩
  obtain ⟨n, hv⟩ := (h i hi).bool ht
  simp [List.getD, hi, hv]
theorem floats_of {P : Program} {e : TypeId} {V : Nat → Value} {len : Nat} (ht : P.underlying e = some (.float .f64)) (h : ∀ i, i < len → Fit P e (V i)) :
    ∃ zs : List Nat, zs.length = len ∧ ∀ i, i < len → V i = .float .f64 (zs.getD i 0) ∧ zs.getD i 0 < 18446744073709551616 := by
  refine ⟨(List.range len).map fun i => match V i with | .float _ n => n | _ => 0, by simp, fun i hi => ?_⟩
  obtain ⟨n, hv, hn⟩ := (h i hi).float ht
  simp [List.getD, hi, hv, hn]

def Ints (w : World) (a : Option Addr) (zs : List Int) : Prop := Row1 w a zs.length fun i => .int .i64 (zs.getD i 0)
def Bytes (w : World) (a : Option Addr) (zs : List Int) : Prop := Row1 w a zs.length fun i => .int .u8 (zs.getD i 0)
def Bools (w : World) (a : Option Addr) (zs : List Bool) : Prop := Row1 w a zs.length fun i => .bool (zs.getD i false)
def Floats (w : World) (a : Option Addr) (zs : List Nat) : Prop := Row1 w a zs.length fun i => .float .f64 (zs.getD i 0)
theorem Ints.drew {w : World} {a : Option Addr} {zs : List Int} (h : Ints w a zs) : Ints w.drew a zs := Row1.drew h
theorem Bytes.drew {w : World} {a : Option Addr} {zs : List Int} (h : Bytes w a zs) : Bytes w.drew a zs := Row1.drew h
theorem Bools.drew {w : World} {a : Option Addr} {zs : List Bool} (h : Bools w a zs) : Bools w.drew a zs := Row1.drew h
theorem Floats.drew {w : World} {a : Option Addr} {zs : List Nat} (h : Floats w a zs) : Floats w.drew a zs := Row1.drew h
theorem Row1.congr {w : World} {a : Option Addr} {len : Nat} {V V' : Nat → Value} (h : Row1 w a len V) (he : ∀ i, i < len → V i = V' i) : Row1 w a len V' := by
  rcases h with h | ⟨b, off, ha, hlt, hc⟩
  · exact .inl h
  · exact .inr ⟨b, off, ha, hlt, fun i hi => by rw [hc i hi, he i hi]⟩
theorem open_ints1 {H : Type} {enc : TypeId × Value → H} {P : Program} {w : World} {spare : Nat → Bool} {held : Bool} {r : Reach} {base' : Nat} {t e : TypeId} {k : IntKind} {v : Value} {d : DataW H} {ps : List MemPlace}
    (ht : P.underlying t = some (.slice e)) (he : P.underlying e = some (.int k)) (hc : P.cellsOf e = 1)
    (hval : Value.okWide P w r base' t v) (hd : DataW.Trod enc P w 0 spare held t v d ps) :
    ∃ a cap, ∃ zs : List Int, v = .slice a zs.length cap ∧ zs.length ≤ cap ∧ cap ≤ 9223372036854775807 ∧ Hdr w a cap ∧ Row1 w a zs.length (fun i => .int k (zs.getD i 0)) ∧ ∀ i, i < zs.length → InKind k (zs.getD i 0) := by
  obtain ⟨a, len, cap, V, rfl, hl, hm, hh, hr, hf⟩ := open_row1 ht hc (by rw [he]) hval hd
  obtain ⟨zs, rfl, hz⟩ := ints_of he hf
  exact ⟨a, cap, zs, rfl, hl, hm, hh, hr.congr fun i hi => (hz i hi).1, fun i hi => (hz i hi).2⟩
theorem open_bools1 {H : Type} {enc : TypeId × Value → H} {P : Program} {w : World} {spare : Nat → Bool} {held : Bool} {r : Reach} {base' : Nat} {t e : TypeId} {v : Value} {d : DataW H} {ps : List MemPlace}
    (ht : P.underlying t = some (.slice e)) (he : P.underlying e = some .bool) (hc : P.cellsOf e = 1)
    (hval : Value.okWide P w r base' t v) (hd : DataW.Trod enc P w 0 spare held t v d ps) :
    ∃ a cap, ∃ zs : List Bool, v = .slice a zs.length cap ∧ zs.length ≤ cap ∧ cap ≤ 9223372036854775807 ∧ Hdr w a cap ∧ Bools w a zs := by
  obtain ⟨a, len, cap, V, rfl, hl, hm, hh, hr, hf⟩ := open_row1 ht hc (by rw [he]) hval hd
  obtain ⟨zs, rfl, hz⟩ := bools_of he hf
  exact ⟨a, cap, zs, rfl, hl, hm, hh, hr.congr fun i hi => hz i hi⟩
theorem open_floats1 {H : Type} {enc : TypeId × Value → H} {P : Program} {w : World} {spare : Nat → Bool} {held : Bool} {r : Reach} {base' : Nat} {t e : TypeId} {v : Value} {d : DataW H} {ps : List MemPlace}
    (ht : P.underlying t = some (.slice e)) (he : P.underlying e = some (.float .f64)) (hc : P.cellsOf e = 1)
    (hval : Value.okWide P w r base' t v) (hd : DataW.Trod enc P w 0 spare held t v d ps) :
    ∃ a cap, ∃ zs : List Nat, v = .slice a zs.length cap ∧ zs.length ≤ cap ∧ cap ≤ 9223372036854775807 ∧ Hdr w a cap ∧ Floats w a zs ∧ ∀ i, i < zs.length → zs.getD i 0 < 18446744073709551616 := by
  obtain ⟨a, len, cap, V, rfl, hl, hm, hh, hr, hf⟩ := open_row1 ht hc (by rw [he]) hval hd
  obtain ⟨zs, rfl, hz⟩ := floats_of he hf
  exact ⟨a, cap, zs, rfl, hl, hm, hh, hr.congr fun i hi => (hz i hi).1, fun i hi => (hz i hi).2⟩
/-- What the call itself has laid reads as numbers. -/
theorem ints_of_own {w : World} {base : Nat} {e : TypeId} {v : Value} {zs : List Int} {n : Nat} (h : w.ownsRow base e 1 v n (zs.map (Value.int .i64))) : ∃ a cap, v = .slice a n cap ∧ zs.length = n ∧ Ints w a zs := by
  obtain ⟨hl, h⟩ := h
  have hn : zs.length = n := by simpa using hl
  rcases h with ⟨rfl, rfl⟩ | ⟨g, cap, cur, rfl, _, hg, hc, _, hs, ht⟩
  · exact ⟨none, 0, rfl, hn, .inl hn⟩
  · refine ⟨_, cap, rfl, hn, .inr ⟨g, 0, rfl, ?_, fun i hi => ?_⟩⟩
    · rcases Nat.lt_or_ge g w.heap.size with h | h
      · exact h
      · rw [Array.getElem?_eq_none h] at hg; cases hg
    · have hx : cur[0 + i]? = some (.int .i64 (zs.getD i 0)) := by
        have this : (cur.toList.take (n * 1))[i]? = (zs.map (Value.int .i64))[i]? := by rw [ht]
        rw [List.getElem?_take, if_pos (by omega)] at this
        rw [Nat.zero_add, ← Array.getElem?_toList, this]
        simp [List.getD, hi]
      simp only [World.cell?, hg]
      exact hx

end Go.Proofs.Ytbnbakienajhmaa
