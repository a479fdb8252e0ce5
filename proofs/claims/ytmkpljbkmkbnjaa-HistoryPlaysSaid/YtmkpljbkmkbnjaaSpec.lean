/-
  PLAIN DEFINITIONS: what the functions of paddock compute, on numbers and lists alone. No Go, no memory.
-/
namespace Go.Proofs.Ytmkpljbkmkbnjaa.Sp

def mix (x : Nat) : Nat :=
  let a := ((x ^^^ (x / 8589934592)) * 18397679294719823053) % 18446744073709551616
  let b := ((a ^^^ (a / 8589934592)) * 14181476777654086739) % 18446744073709551616
  b ^^^ (b / 8589934592)

def hash (a b c : Nat) : Nat := mix ((mix ((mix a + b) % 18446744073709551616) + c) % 18446744073709551616) % 4294967296

def lstep (s : Nat × Nat) : Nat × Nat :=
  if 4294967296 ≤ s.1 * s.1 / 2147483648 then (s.1 * s.1 / 2147483648 / 2, 2 * s.2 + 1) else (s.1 * s.1 / 2147483648, 2 * s.2)

def literate : Nat → Nat × Nat → Nat × Nat
  | 0, s => s
  | n + 1, s => lstep (literate n s)

def log (u : Nat) : Nat := Nat.log2 u * 65536 + (literate 16 (u * 2 ^ (31 - Nat.log2 u), 0)).2

def clampW (w : Int) : Int := if w < 1 then 1 else if 16 < w then 16 else w

def straw (h : Nat) (w : Int) : Int := -(((1048576 - (log (h % 65536 + 1) : Int)) * 4096).tdiv (clampW w))

def draw (g o t : Nat) (w : Int) : Int := straw (hash g o t) w

structure Osd where
  up : Bool
  wt : Int
  host : Int
deriving DecidableEq

structure Mp where
  ep : Int
  o0 : Osd
  o1 : Osd
  o2 : Osd
  o3 : Osd
  o4 : Osd
deriving DecidableEq

def Mp.osd (m : Mp) : Nat → Osd
  | 0 => m.o0 | 1 => m.o1 | 2 => m.o2 | 3 => m.o3 | _ => m.o4

def okOsd (o : Osd) : Bool := decide (0 ≤ o.wt) && decide (o.wt ≤ 16) && decide (o.host < 8)
def isMap (m : Mp) : Bool := okOsd m.o0 && okOsd m.o1 && okOsd m.o2 && okOsd m.o3 && okOsd m.o4 && decide (1 ≤ m.ep) && decide (m.ep ≤ 60)

/-- the daemons that have weight -/
def inUpto (m : Mp) : Nat → List Nat
  | 0 => []
  | k + 1 => if 0 < (m.osd k).wt then inUpto m k ++ [k] else inUpto m k
def inL (m : Mp) : List Nat := inUpto m 5

/-- the place of the longest one among the first k -/
def bestAt (l : List Int) : Nat → Int
  | 0 => -1
  | k + 1 => if bestAt l k < 0 ∨ l.getD (bestAt l k).toNat 0 < l.getD k 0 then (k : Int) else bestAt l k

def straws (m : Mp) (g t : Nat) (l : List Nat) : List Int := l.map fun o => draw g o t (m.osd o).wt

def drawO (m : Mp) (g t : Nat) : Nat := (inL m).getD (bestAt (straws m g t (inL m)) (inL m).length).toNat 0

def clash (m : Mp) (o p : Nat) : Bool := decide (p = o) || decide ((m.osd p).host = (m.osd o).host)
def fits (m : Mp) (picked : List Nat) (o : Nat) : Bool := !(picked.any (clash m o))

/-- one more from the try t on; n tries are left -/
def pickFrom (m : Mp) (g r : Nat) (picked : List Nat) : Nat → Nat → List Nat
  | 0, _ => picked
  | n + 1, t => if fits m picked (drawO m g (r + t * 3)) then picked ++ [drawO m g (r + t * 3)] else pickFrom m g r picked n (t + 1)

def pickUpto (m : Mp) (g : Nat) : Nat → List Nat
  | 0 => []
  | r + 1 => pickFrom m g r (pickUpto m g r) 20 0

def pick (m : Mp) (g : Nat) : List Nat :=
  if isMap m = true ∧ g < 4 then (if (inL m).length = 0 then [] else pickUpto m g 3) else []

def acting (m : Mp) (g : Nat) : List Nat := (pick m g).filter fun o => (m.osd o).up

def first : Mp := ⟨1, ⟨true, 8, 0⟩, ⟨true, 8, 1⟩, ⟨true, 8, 2⟩, ⟨true, 8, 3⟩, ⟨true, 8, 0⟩⟩

/-- an increment -/
structure Inc where
  kind : Int
  osd : Int
  n : Int
deriving DecidableEq

def isInc (x : Inc) : Bool :=
  if x.kind = 1 ∨ x.kind = 2 then decide (x.osd < 5) && decide (x.n = 0)
  else if x.kind = 3 then decide (x.osd < 5) && decide (0 ≤ x.n) && decide (x.n ≤ 16)
  else decide (x.kind = 4) && decide (x.osd = 0) && decide (x.n = 0)

def Mp.put (m : Mp) (i : Nat) (o : Osd) : Mp :=
  match i with
  | 0 => { m with o0 := o } | 1 => { m with o1 := o } | 2 => { m with o2 := o } | 3 => { m with o3 := o } | _ => { m with o4 := o }

def okApply (m : Mp) (x : Inc) : Bool := isMap m && isInc x && decide (m.ep ≠ 60)

def change (o : Osd) (x : Inc) : Osd :=
  if x.kind = 1 then { o with up := true } else if x.kind = 2 then { o with up := false } else if x.kind = 3 then { o with wt := x.n } else o

/-- the next map -/
def apply (m : Mp) (x : Inc) : Mp := ({ m with ep := m.ep + 1 }).put x.osd.toNat (change (m.osd x.osd.toNat) x)

end Go.Proofs.Ytmkpljbkmkbnjaa.Sp
