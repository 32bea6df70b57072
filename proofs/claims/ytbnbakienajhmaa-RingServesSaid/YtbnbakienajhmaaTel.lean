/- The records: a run, a phase, a cue, a detector, a rail, a bus, a table; their cells. No function of the program. -/
import Derived.Test.YtbnbakienajhmaaOpen
namespace Go.Proofs.Ytbnbakienajhmaa
open Go.RowKit
set_option linter.unusedVariables false

/-- A run's cells. -/
structure Rn where
  c : Int
  t : Int
  fs : Int
  ft : Int
  l : Int
  p : Int
  e : Int
  d : Bool
  m : Bool
  tl : Int
  tu : Int
  td : Int
/-- A phase's cells, and what it is told. -/
structure Phs where
  on : Bool
  min : Int
  gap : Int
  max : Int
  top : Int
  step : Int
  yel : Int
  red : Int
  walk : Int
  blinks : Int
  recl : Int
  lock : Bool
  rest : Bool
structure Cu where
  st : Bool
  en : Bool
  he : Bool
  pu : Bool
  pr : Bool
  ho : Bool
  ea : Bool
  cu : Bool
structure Det where
  ph : Int
  on : Nat
  off : Nat
  dl : Nat
  ex : Nat
  mon : Int
  mof : Int
structure Rl where
  bars : Int
  clr : Int
  dwl : Int
  ext : Int
  dly : Int
  grn : Int
  foot : Int
  hold : Int
  stay : Int
  most : Int
  lim : Int
structure Bus where
  set : Int
  lock : Int
/-- What a table says. -/
structure Tab where
  ph : Nat → Phs
  gr : List (List Int × List Int)
  cf : Nat → Int
  de : List Det
  ra : List Rl
  bu : List Bus
  ext : Int
  bud : Int
  start : Int
  rev : Int
  least : Int
  fl : Nat → Int
  win : Int
  share : Int
def phC (p : Phs) : List Value := [.bool p.on, .int .i64 p.min, .int .i64 p.gap, .int .i64 p.max, .int .i64 p.top, .int .i64 p.step, .int .i64 p.yel, .int .i64 p.red, .int .i64 p.walk, .int .i64 p.blinks, .int .i64 p.recl, .bool p.lock, .bool p.rest]
def detC (d : Det) : List Value := [.int .i64 d.ph, .float .f64 d.on, .float .f64 d.off, .float .f64 d.dl, .float .f64 d.ex, .int .i64 d.mon, .int .i64 d.mof]
def rlC (r : Rl) : List Value := [.int .i64 r.bars, .int .i64 r.clr, .int .i64 r.dwl, .int .i64 r.ext, .int .i64 r.dly, .int .i64 r.grn, .int .i64 r.foot, .int .i64 r.hold, .int .i64 r.stay, .int .i64 r.most, .int .i64 r.lim]
def busC (b : Bus) : List Value := [.int .i64 b.set, .int .i64 b.lock]
/-- Cell i of a table, whose four slices are g, d, r, b. -/
def tabAt (t : Tab) (g d r b : Value) (i : Nat) : Value :=
  if i < 104 then (phC (t.ph (i / 13))).getD (i % 13) undef
  else if i = 104 then g
  else if i < 113 then .int .i64 (t.cf (i - 105))
  else if i = 113 then d
  else if i = 114 then r
  else if i = 115 then b
  else if i = 116 then .int .i64 t.ext
  else if i = 117 then .int .i64 t.bud
  else if i = 118 then .int .i64 t.start
  else if i = 119 then .int .i64 t.rev
  else if i = 120 then .int .i64 t.least
  else if i < 129 then .int .i64 (t.fl (i - 121))
  else if i = 129 then .int .i64 t.win
  else .int .i64 t.share
/-- An array by its cells. -/
def arrF (n : Nat) (f : Nat → Value) : Array Value := Array.ofFn (n := n) fun i => f i.val
theorem arrF_size (n : Nat) (f : Nat → Value) : (arrF n f).size = n := by simp [arrF]
theorem arrF_get (n : Nat) (f : Nat → Value) (i : Nat) (h : i < n) : (arrF n f)[i]? = some (f i) := by simp [arrF, h]
theorem arrF_of {C : Array Value} {n : Nat} {f : Nat → Value} (hs : C.size = n) (h : ∀ i, i < n → C[i]? = some (f i)) : C = arrF n f := by
  refine Array.ext (by rw [arrF_size, hs]) fun i h1 h2 => ?_
  have := h i (by omega)
  rw [Array.getElem?_eq_getElem h1] at this
  rw [Option.some.inj this]
  simp [arrF]
theorem arrF_congr {n : Nat} {f g : Nat → Value} (h : ∀ i, i < n → f i = g i) : arrF n f = arrF n g := arrF_of (arrF_size n f) fun i hi => by rw [arrF_get n f i hi, h i hi]
theorem tabAt_ph (t : Tab) (g d r b : Value) (p j : Nat) (hp : p < 8) (hj : j < 13) : tabAt t g d r b (13 * p + j) = (phC (t.ph p)).getD j undef := by
  unfold tabAt
  rw [if_pos (by omega), show (13 * p + j) / 13 = p by omega, show (13 * p + j) % 13 = j by omega]
theorem tabAt_cf (t : Tab) (g d r b : Value) (p : Nat) (hp : p < 8) : tabAt t g d r b (105 + p) = .int .i64 (t.cf p) := by
  unfold tabAt
  rw [if_neg (by omega), if_neg (by omega), if_pos (by omega), show 105 + p - 105 = p by omega]
theorem tabAt_fl (t : Tab) (g d r b : Value) (p : Nat) (hp : p < 8) : tabAt t g d r b (121 + p) = .int .i64 (t.fl p) := by
  unfold tabAt
  rw [if_neg (by omega), if_neg (by omega), if_neg (by omega), if_neg (by omega), if_neg (by omega), if_neg (by omega), if_neg (by omega), if_neg (by omega), if_neg (by omega), if_neg (by omega), if_neg (by omega), if_pos (by omega), show 121 + p - 121 = p by omega]
end Go.Proofs.Ytbnbakienajhmaa
