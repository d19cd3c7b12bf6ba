/-
  What trans and the document's transfer tell, in plain words.
-/
import Derived.Test.YtnmpgijiimglcaaGreatBTF15
import Derived.Test.YtnmpgijiimglcaaGreatRTop
namespace Go.Proofs.YtnmpgijiimglcaaGreat
open Go.RowKit

def emptyO (n : Int) : O := ⟨n, true, []⟩
/-- An octagon with a cell bounded. -/
def withO (o : O) (i j : Nat) (c : Int) : O := if o.e then emptyO o.n else if i = j then (if c < 0 then emptyO o.n else o) else ⟨o.n, false, boundM (2 * o.n).toNat i j c o.m⟩
def twiceB (n : Int) : Int := if 2305843009213693952 < n then 9223372036854775807 else if n < -2305843009213693952 then -4611686018427387904 else 2 * n
def negB (n : Int) : Int := if n = -9223372036854775808 then 9223372036854775807 else -n
def hiO (o : O) (v : Nat) (r : Rg) : O := if r.hh then withO o (2 * v) (2 * v + 1) (twiceB r.hi) else o
def rangedO (o : O) (v : Nat) (r : Rg) : O := if r.hl then withO (hiO o v r) (2 * v + 1) (2 * v) (twiceB (negB r.lo)) else hiO o v r
def goneB (N v p : Nat) : Bool := decide (p / N ≠ p % N) && (decide (p / N / 2 = v) || decide (p % N / 2 = v))
def forgetM (N v : Nat) (m : List Int) : List Int := (List.range m.length).map fun p => if goneB N v p then 9223372036854775807 else gI m (p : Int)
def forgetO (o : O) (v : Nat) : O := if (closeO o).e then closeO o else ⟨o.n, false, forgetM (2 * o.n).toNat v (closeO o).m⟩
def giveO (o : O) (v : Nat) (r : Rg) : O := closeO (rangedO (forgetO o v) v r)
def lessD (s : Bool) : Int := if s then -1 else 0
/-- a at most b, or below it. -/
def atMostO (c : O) (av an bv bn : Int) (s : Bool) : O :=
  if 0 ≤ av then
    if 0 ≤ bv then (if av = bv then (if s then emptyO c.n else c) else withO c (2 * av.toNat) (2 * bv.toNat) (lessD s))
    else if s && decide (bn = -9223372036854775808) then emptyO c.n else rangedO c av.toNat ⟨0, bn + lessD s, false, true⟩
  else if s && decide (an = 9223372036854775807) then emptyO c.n else rangedO c bv.toNat ⟨an - lessD s, 0, true, false⟩
def unlikeVarsO (c : O) (av an bv bn : Int) : O :=
  if av = bv then emptyO c.n
  else
    let o1 := if G (2 * c.n).toNat c.m (2 * av.toNat) (2 * bv.toNat) = 0 then atMostO c av an bv bn true else c
    if G (2 * c.n).toNat c.m (2 * bv.toNat) (2 * av.toNat) = 0 then atMostO o1 bv bn av an true else o1
def unlikeNumO (c : O) (av an bv bn : Int) : O :=
  let r := varR (2 * c.n).toNat c.m av.toNat
  let o1 := if r.hh && decide (r.hi = bn) then atMostO c av an bv bn true else c
  if r.hl && decide (r.lo = bn) then atMostO o1 bv bn av an true else o1
def unlikeO (c : O) (av an bv bn : Int) : O :=
  if av < 0 then (if 0 ≤ av then unlikeVarsO c bv bn av an else unlikeNumO c bv bn av an)
  else if 0 ≤ bv then unlikeVarsO c av an bv bn else unlikeNumO c av an bv bn
/-- What is known of a closed octagon that isn't empty where a comparison holds. -/
def assumesO (c : O) (op av an bv bn : Int) : O :=
  if av < 0 ∧ bv < 0 then (if cmpB op an bn then c else emptyO c.n)
  else if op = 3 then closeO (atMostO (atMostO c av an bv bn false) bv bn av an false)
  else if op = 4 then closeO (unlikeO c av an bv bn)
  else if op = 5 then closeO (atMostO c bv bn av an true)
  else if op = 1 then closeO (atMostO c av an bv bn true)
  else if op = 6 then closeO (atMostO c bv bn av an false)
  else closeO (atMostO c av an bv bn false)
def linkO (c : O) (i j : Nat) (k : Int) : O := closeO (withO (withO (forgetO c (i / 2)) i j k) j i (-k))
def byK (dst : Nat) (k : Int) (i : Nat) : Int := if i / 2 = dst then (if i % 2 = 0 then k else -k) else 0
def shiftM (N dst : Nat) (k : Int) (m : List Int) : List Int :=
  (List.range m.length).map fun p => if p / N ≠ p % N ∧ gI m (p : Int) ≠ 9223372036854775807 then plus (gI m (p : Int)) (byK dst k (p / N) - byK dst k (p % N)) else gI m (p : Int)
def shiftO (c : O) (dst y : Nat) (k : Int) : O :=
  if 2305843009213693952 < k ∨ k < -2305843009213693952 then forgetO c dst
  else if y ≠ dst then linkO c (2 * dst) (2 * y) k
  else closeO ⟨c.n, false, shiftM (2 * c.n).toNat dst k c.m⟩
def otherV (v i : Nat) : Nat := if i / 2 = v then nx i else i
def turnM (N v : Nat) (m : List Int) : List Int := (List.range m.length).map fun p => G N m (otherV v (p / N)) (otherV v (p % N))
def turnsO (c : O) (v : Nat) : O := closeO ⟨c.n, false, turnM (2 * c.n).toNat v c.m⟩
def pairO (o : O) (i j : Nat) (r : Rg) : O :=
  let o1 := if r.hh then withO o i j r.hi else o
  if r.hl then withO o1 j i (negB r.lo) else o1
def turnedR (r : Rg) : Rg := ⟨negB r.hi, negB r.lo, r.hh, r.hl⟩
def sumsO (c : O) (dst u w : Nat) (diff : Bool) : O :=
  let N := (2 * c.n).toNat
  let p := varR N c.m u
  let q := if diff then turnedR (varR N c.m w) else varR N c.m w
  let r := if diff then diffR N c.m u w else sumR N c.m u w
  let side := if diff then 2 * w + 1 else 2 * w
  let d := rangedO (forgetO c dst) dst r
  let d1 := if u ≠ w ∧ w ≠ dst then pairO d (2 * dst) side p else d
  let d2 := if u ≠ w ∧ u ≠ dst then pairO d1 (2 * dst) (2 * u) q else d1
  closeO d2
/-- Of two numbers what a kind of edge makes. -/
def kindW (kd a b : Int) : Int × Int := if kd = 3 then negW a else if kd = 4 then addW a b else if kd = 5 then subW a b else if kd = 6 then mulW a b else if kd = 7 then divW a b else remW a b
def numberO (c : O) (kd : Int) (dst : Nat) (a b : Int) : O := if (kindW kd a b).2 = 0 then giveO c dst (oneR (kindW kd a b).1) else emptyO c.n
def restR (k : Int) (r : Rg) : Rg :=
  ⟨if r.hh then (subW k r.hi).1 else 0, if r.hl then (subW k r.lo).1 else 0, r.hh && decide ((subW k r.hi).2 = 0), r.hl && decide ((subW k r.lo).2 = 0)⟩
def addsO (c : O) (diff : Bool) (dst : Nat) (av an bv bn : Int) : O :=
  if 0 ≤ av then
    if 0 ≤ bv then sumsO c dst av.toNat bv.toNat diff
    else if diff then (if (negW bn).2 = 0 then shiftO c dst av.toNat (-bn) else giveO c dst rg0)
    else shiftO c dst av.toNat bn
  else if diff then giveO c dst (restR an (varR (2 * c.n).toNat c.m bv.toNat))
  else shiftO c dst bv.toNat an
def kindR (kd : Int) (a b : Rg) : Rg := if kd = 6 then mulR a b else if kd = 7 then divR a b else remR a b
def productsO (c : O) (kd : Int) (dst : Nat) (av an bv bn : Int) : O := giveO c dst (kindR kd (opdR (2 * c.n).toNat c.m av an) (opdR (2 * c.n).toNat c.m bv bn))
end Go.Proofs.YtnmpgijiimglcaaGreat
