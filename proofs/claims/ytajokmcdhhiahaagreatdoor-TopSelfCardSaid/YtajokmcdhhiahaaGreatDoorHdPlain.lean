/- Policies of a text, over lists of bytes. No program in sight. -/
import Derived.Test.YtajokmcdhhiahaaGreatDoorFoldPlain
namespace Go.Proofs.YtajokmcdhhiahaaGreatDoor.Hd
open Go

/-- A byte of a word, of a name. -/
def wc (c : UInt8) : Bool := 32 < c.toNat && c.toNat < 127 && c != 44 && c != 59
def nc (c : UInt8) : Bool := (97 ≤ c.toNat && c.toNat ≤ 122) || (48 ≤ c.toNat && c.toNat ≤ 57) || c == 45
def word (l : List UInt8) : Bool := l.all wc && !l.isEmpty
def name (l : List UInt8) : Bool := decide (l.length ≤ 40) && l.all nc && !l.isEmpty
/-- A directive: its name, its words. -/
structure Dir where
  name : List UInt8
  words : List (List UInt8)
  deriving DecidableEq
structure Pol where
  dirs : List Dir
  report : Bool
  deriving DecidableEq
/-- What a part begins a directive with; none: it has no word. -/
def dirOf (part : List UInt8) : Option Dir :=
  match Fo.words part with
  | [] => none
  | w :: r => some ⟨Fo.lower w, (r.take 200).filter word⟩
def find (ds : List Dir) (n : List UInt8) : Option (List (List UInt8)) := (ds.find? fun d => d.name == Fo.lower n).map (·.words)
/-- A directive more, where its name is none's. -/
def add (ds : List Dir) (d : Dir) : List Dir := if (find ds d.name).isSome then ds else ds ++ [d]
def step (ds : List Dir) (part : List UInt8) : List Dir :=
  match dirOf part with
  | none => ds
  | some d => if name d.name then add ds d else ds
def polOf (part : List UInt8) : List Dir := (Fo.parts 59 part).foldl step []
def parse (s : List UInt8) (report : Bool) : List Pol := (((Fo.parts 44 s).map polOf).filter fun ds => !ds.isEmpty).take 10 |>.map fun ds => ⟨ds, report⟩
/-- Is a policy right? -/
def rightDirs : List Dir → List Dir → Bool
  | _, [] => true
  | seen, d :: r => name d.name && !(seen.any fun e => e.name == d.name) && decide (d.words.length ≤ 200) && d.words.all word && rightDirs (seen ++ [d]) r
def right (p : Pol) : Bool := rightDirs [] p.dirs && !p.dirs.isEmpty
def dirText (d : Dir) : List UInt8 := d.name ++ d.words.flatMap fun w => 32 :: w
def dirsText : List Dir → List UInt8
  | [] => []
  | [d] => dirText d
  | d :: e :: r => dirText d ++ [59, 32] ++ dirsText (e :: r)
def print (p : Pol) : Option (List UInt8) := if right p then some (dirsText p.dirs) else none
end Go.Proofs.YtajokmcdhhiahaaGreatDoor.Hd
