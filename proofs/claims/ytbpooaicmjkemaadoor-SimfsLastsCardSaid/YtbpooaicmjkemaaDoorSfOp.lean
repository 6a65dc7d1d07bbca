/-
  A disk as a record, and what each deed does to it. No program in sight. No condition.
-/
import Derived.Test.YtbpooaicmjkemaaDoorSfPl
namespace Go.Proofs.YtbpooaicmjkemaaDoor
set_option linter.unusedVariables false
structure Dk where
  quota : Int
  dirs : List Tx
  nodes : List Nd
  now : Es
  lasts : Es
  waits : List Ch
  off : Bool
  done : Int
  arm : Nat
  fail : Nat
  failed : Int
def cs65 : List UInt8 := [97, 98, 99, 100, 101, 102, 103, 104, 105, 106, 107, 108, 109, 110, 111, 112, 113, 114, 115, 116, 117, 118, 119, 120, 121, 122, 65, 66, 67, 68, 69, 70, 71, 72, 73, 74, 75, 76, 77, 78, 79, 80, 81, 82, 83, 84, 85, 86, 87, 88, 89, 90, 48, 49, 50, 51, 52, 53, 54, 55, 56, 57, 45, 95, 46]
def nameB (s : Tx) : Bool := decide (1 ≤ s.length) && decide (s.length ≤ 32) && s.all (cs65.contains ·)
/-- where the first / is -/
def slash (p : Tx) : Nat := p.findIdx (· == 47)
def hasSlash (p : Tx) : Bool := p.contains 47
def dirOf (p : Tx) : Tx := if hasSlash p then p.take (slash p) else []
def nameOf (p : Tx) : Tx := if hasSlash p then p.drop (slash p + 1) else []
def mayB (dirs : List Tx) (p : Tx) : Bool := dirs.contains (dirOf p) && nameB (nameOf p)
def nodeM (d : Dk) (n : Nat) : Nd := d.nodes.getD n nd0
def usedL (nodes : List Nd) (L : Es) : Nat := (L.map fun e => (nodes.getD e.2 nd0).now.length).sum
def usedM (d : Dk) : Nat := usedL d.nodes d.now
/-- bytes behind a write -/
def laid (l : Tx) (w : Wr) : Tx := if w.at_ < 0 then l ++ w.b else l.take w.at_.toNat ++ w.b ++ l.drop (w.at_.toNat + w.b.length)
def stepM (d : Dk) : Dk × Int :=
  if d.arm = 1 then ({ d with off := true, arm := 0, fail := 0 }, 10)
  else if d.fail = 1 then ({ d with arm := d.arm - 1, fail := 0 }, d.failed)
  else ({ d with arm := d.arm - 1, fail := d.fail - 1, done := d.done + 1 }, 0)
def enterM (d : Dk) (c : Ch) : Dk := { d with now := didE d.now c, waits := d.waits ++ [c] }
def createM (d : Dk) (p : Tx) : Dk × Int :=
  if d.off = true then (d, 10)
  else if mayB d.dirs p = false then (d, 11)
  else if getE d.now p ≠ none then (d, 13)
  else if 4096 ≤ d.now.length then (d, 14)
  else if (stepM d).2 ≠ 0 then stepM d
  else (enterM { (stepM d).1 with nodes := d.nodes ++ [nd0] } ⟨1, [], p, d.nodes.length⟩, 0)
/-- the error of looking a file up -/
def missM (d : Dk) (p : Tx) : Int := if d.off = true then 10 else if getE d.now p = none then 12 else 0
def fileM (d : Dk) (p : Tx) : Nat := (getE d.now p).getD 0
def wroteM (d : Dk) (n : Nat) (w : Wr) : Dk := { d with nodes := d.nodes.set n { nodeM d n with now := laid (nodeM d n).now w, waits := (nodeM d n).waits ++ [w] } }
def writeM (d : Dk) (n : Nat) (w : Wr) : Dk × Int := if (stepM d).2 ≠ 0 then stepM d else (wroteM (stepM d).1 n w, 0)
def appendM (d : Dk) (p b : Tx) : Dk × Int :=
  if missM d p ≠ 0 then (d, missM d p)
  else if (b.length : Int) > d.quota - usedM d then (d, 15)
  else writeM d (fileM d p) ⟨-1, b⟩
def writeAtM (d : Dk) (p : Tx) (at_ : Int) (b : Tx) : Dk × Int :=
  if missM d p ≠ 0 then (d, missM d p)
  else if at_ < 0 ∨ at_ > ((nodeM d (fileM d p)).now.length : Int) ∨ (b.length : Int) > ((nodeM d (fileM d p)).now.length : Int) - at_ then (d, 1)
  else writeM d (fileM d p) ⟨at_, b⟩
def syncedM (d : Dk) (n : Nat) : Dk := { d with nodes := d.nodes.set n { nodeM d n with lasts := (nodeM d n).now, waits := [] } }
def syncM (d : Dk) (p : Tx) : Dk × Int :=
  if missM d p ≠ 0 then (d, missM d p)
  else if (stepM d).2 ≠ 0 then stepM d
  else (syncedM (stepM d).1 (fileM d p), 0)
def renameM (d : Dk) (p q : Tx) : Dk × Int :=
  if missM d p ≠ 0 then (d, missM d p)
  else if mayB d.dirs q = false then (d, 11)
  else if (stepM d).2 ≠ 0 then stepM d
  else if p = q then ((stepM d).1, 0)
  else (enterM (stepM d).1 ⟨2, p, q, 0⟩, 0)
def unlinkM (d : Dk) (p : Tx) : Dk × Int :=
  if missM d p ≠ 0 then (d, missM d p)
  else if (stepM d).2 ≠ 0 then stepM d
  else (enterM (stepM d).1 ⟨3, p, [], 0⟩, 0)
def withinC (c : Ch) (dir : Tx) : Bool := decide (dirOf c.fr = dir) || decide (dirOf c.tt = dir)
/-- which changes a directory's sync brings -/
def broughtM (dir : Tx) : List Ch → List Bool
  | [] => []
  | c :: r => (withinC c dir || (r.zip (broughtM dir r)).any fun x => x.2 && shareC c x.1) :: broughtM dir r
def lastM (d : Dk) (br : List Bool) : Dk := { d with lasts := didAll d.lasts (selC (d.waits.zip br)), waits := rstC (d.waits.zip br) }
def syncDirM (d : Dk) (dir : Tx) : Dk × Int :=
  if d.off = true then (d, 10)
  else if d.dirs.contains dir = false then (d, 12)
  else if (stepM d).2 ≠ 0 then stepM d
  else (lastM (stepM d).1 (broughtM dir d.waits), 0)
def failM (d : Dk) (n e : Int) : Dk × Int :=
  if d.off = true then (d, 10) else if n < 0 ∨ (e ≠ 16 ∧ e ≠ 15) then (d, 1) else ({ d with fail := n.toNat, failed := e }, 0)
def armM (d : Dk) (n : Int) : Dk × Int :=
  if d.off = true then (d, 10) else if n < 0 then (d, 1) else ({ d with arm := n.toNat }, 0)
/-- how many bytes wait -/
def waitN (x : Nd) : Nat := (x.waits.map fun w => w.b.length).sum
def keepB : Tx → List Wr → Int → Tx
  | l, [], _ => l
  | l, w :: r, n => keepB (laid l ⟨w.at_, w.b.take (max n 0).toNat⟩) r (n - ((min (max n 0) (w.b.length : Int))))
def keepN (x : Nd) (n : Int) : Nd := ⟨keepB x.lasts x.waits n, keepB x.lasts x.waits n, []⟩
def keptM : List Nd → List Int → List Nd
  | [], _ => []
  | x :: r, ks => if waitN x = 0 then keepN x 0 :: keptM r ks else keepN x (ks.headD 0) :: keptM r ks.tail
/-- which changes survive: those ahead, with their answers -/
def survGo : List (Ch × Bool) → List Ch → List Bool → List Bool
  | _, [], _ => []
  | a, c :: r, ks =>
    let s := ks.headD false && a.all fun x => x.2 || !shareC x.1 c
    s :: survGo (a ++ [(c, s)]) r ks.tail
def survM (cs : List Ch) (ks : List Bool) : List Bool := survGo [] cs ks
def crashM (d : Dk) (kc : List Bool) (kw : List Int) : Dk :=
  { d with nodes := keptM d.nodes kw, now := didAll d.lasts (selC (d.waits.zip (survM d.waits kc))), lasts := didAll d.lasts (selC (d.waits.zip (survM d.waits kc))), waits := [], off := false, arm := 0, fail := 0 }
def pathM (L : Es) (n : Nat) : Tx := match L.find? fun e => decide (e.2 = n) with
  | none => []
  | some e => e.1
def listM (d : Dk) (dir : Tx) : List Tx := (d.now.filter fun e => decide (dirOf e.1 = dir)).map fun e => nameOf e.1
/-- what does not last yet: the writes -/
def tellGo (L : Es) : List Nd → Nat → List (Tx × Nat)
  | [], _ => []
  | x :: r, i => if waitN x = 0 then tellGo L r (i + 1) else (pathM L i, waitN x) :: tellGo L r (i + 1)
def tellM (d : Dk) : List (Tx × Nat) := tellGo d.now d.nodes 0
end Go.Proofs.YtbpooaicmjkemaaDoor
