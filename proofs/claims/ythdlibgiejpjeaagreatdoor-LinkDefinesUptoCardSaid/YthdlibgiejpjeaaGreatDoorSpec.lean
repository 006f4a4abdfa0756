/- Plain Lean: what the functions of the layers 1, 2 and 5 compute that are met by hand-written contracts; bytes as lists. No Go, no memory. -/
import Derived.Lib.Strings
import Derived.Lib.Bytealg
import Derived.Lib.SlTrimSet
import Derived.Lib.RuneBytes
import Derived.Lib.IndexMore
import Derived.Lib.Replace
import Derived.Lib.CutLaws
set_option linter.unusedVariables false
set_option linter.unusedSimpArgs false
namespace Go.Proofs.YthdlibgiejpjeaaGreatDoor.Spec
open Go

/-- An ASCII mark. -/
def markC (c : UInt8) : Bool := (33 ≤ c && c ≤ 47) || (58 ≤ c && c ≤ 64) || (91 ≤ c && c ≤ 96) || (123 ≤ c && c ≤ 126)

/-- All bytes are ASCII. -/
def ascii (l : List UInt8) : Bool := l.all (· < 128)

/-- escape.HTML. -/
def htmlC (c : UInt8) : List UInt8 :=
  if c = 38 then [38, 97, 109, 112, 59] else if c = 60 then [38, 108, 116, 59] else if c = 62 then [38, 103, 116, 59] else if c = 34 then [38, 113, 117, 111, 116, 59] else [c]
def html (l : List UInt8) : List UInt8 := l.flatMap htmlC

/-- A byte that stands in a URL as it is. -/
def plainU (c : UInt8) : Bool :=
  (97 ≤ c ||| 32 && c ||| 32 ≤ 122) || (48 ≤ c && c ≤ 57) || ([45, 95, 46, 33, 126, 42, 39, 40, 41, 59, 47, 63, 58, 64, 61, 43, 36, 44, 35, 37] : List UInt8).contains c
def hexU (n : Nat) : UInt8 := if n < 10 then (48 + n).toUInt8 else (55 + n).toUInt8
/-- escape.URL. -/
def urlC (c : UInt8) : List UInt8 := if plainU c then [c] else if c = 38 then [38, 97, 109, 112, 59] else [37, hexU (c.toNat / 16), hexU (c.toNat % 16)]
def url (l : List UInt8) : List UInt8 := l.flatMap urlC

/-- The names and what they stand for, as the Go text lists them. -/
def names : List (List UInt8 × List UInt8) := [
  ([97, 109, 112], [38]), ([108, 116], [60]), ([103, 116], [62]), ([113, 117, 111, 116], [34]), ([97, 112, 111, 115], [39]), ([110, 98, 115, 112], [194, 160]),
  ([99, 111, 112, 121], [194, 169]), ([114, 101, 103], [194, 174]), ([115, 101, 99, 116], [194, 167]), ([112, 97, 114, 97], [194, 182]), ([109, 105, 100, 100, 111, 116], [194, 183]),
  ([102, 114, 97, 99, 49, 50], [194, 189]), ([102, 114, 97, 99, 51, 52], [194, 190]), ([116, 105, 109, 101, 115], [195, 151]), ([100, 105, 118, 105, 100, 101], [195, 183]),
  ([97, 117, 109, 108], [195, 164]), ([65, 117, 109, 108], [195, 132]), ([111, 117, 109, 108], [195, 182]), ([79, 117, 109, 108], [195, 150]), ([117, 117, 109, 108], [195, 188]), ([85, 117, 109, 108], [195, 156]),
  ([115, 122, 108, 105, 103], [195, 159]), ([101, 97, 99, 117, 116, 101], [195, 169]), ([101, 103, 114, 97, 118, 101], [195, 168]), ([97, 103, 114, 97, 118, 101], [195, 160]), ([99, 99, 101, 100, 105, 108], [195, 167]),
  ([110, 116, 105, 108, 100, 101], [195, 177]), ([65, 69, 108, 105, 103], [195, 134]), ([97, 101, 108, 105, 103], [195, 166]), ([68, 99, 97, 114, 111, 110], [196, 142]), ([104, 101, 108, 108, 105, 112], [226, 128, 166]),
  ([110, 100, 97, 115, 104], [226, 128, 147]), ([109, 100, 97, 115, 104], [226, 128, 148]), ([108, 115, 113, 117, 111], [226, 128, 152]), ([114, 115, 113, 117, 111], [226, 128, 153]), ([108, 100, 113, 117, 111], [226, 128, 156]),
  ([114, 100, 113, 117, 111], [226, 128, 157]), ([98, 117, 108, 108], [226, 128, 162]), ([101, 117, 114, 111], [226, 130, 172]), ([116, 114, 97, 100, 101], [226, 132, 162]), ([108, 97, 114, 114], [226, 134, 144]),
  ([114, 97, 114, 114], [226, 134, 146]), ([72, 105, 108, 98, 101, 114, 116, 83, 112, 97, 99, 101], [226, 132, 139]), ([68, 105, 102, 102, 101, 114, 101, 110, 116, 105, 97, 108, 68], [226, 133, 134]),
  ([110, 103, 69], [226, 137, 167, 204, 184]), ([110, 118, 108, 116], [60, 226, 131, 146])]
def namedIn (l : List UInt8) : List (List UInt8 × List UInt8) → List UInt8
  | [] => []
  | (a, b) :: r => if a = l then b else namedIn l r
def named (l : List UInt8) : List UInt8 := namedIn l names

/-- A digit's value in base sixteen; 16: it is none. -/
def digit (c : UInt8) : Nat := if 48 ≤ c ∧ c ≤ 57 then c.toNat - 48 else if 97 ≤ c ∧ c ≤ 102 then c.toNat - 87 else if 65 ≤ c ∧ c ≤ 70 then c.toNat - 55 else 16
def value (base : Nat) (l : List UInt8) : Nat := l.foldl (fun n c => base * n + digit c) 0
/-- A reference's number as a character: what is none, or 0, is U+FFFD. -/
def runeOf (n : Nat) : Nat := if n = 0 ∨ (55296 ≤ n ∧ n ≤ 57343) ∨ 1114111 < n then 65533 else n
/-- A reference's number as bytes. -/
def encB (m : Int) : List UInt8 := (Utf8.encode m).data.toList
def runeText (n : Nat) : List UInt8 := encB (runeOf n : Int)
def number (l : List UInt8) (base most : Nat) : List UInt8 × Nat :=
  let ds := l.takeWhile (fun c => digit c < base)
  if ds = [] ∨ most < ds.length ∨ (l.drop ds.length).head? ≠ some 59 then ([], 0) else (runeText (value base ds), ds.length + 1)
/-- Not a semicolon. -/
def notSemi (c : UInt8) : Bool := c != 59
/-- escape.Entity. -/
def entity (l : List UInt8) : List UInt8 × Nat :=
  match l with
  | 38 :: 35 :: hash =>
    let p := match hash with
      | c :: h1 => if c ||| 32 = 120 then (number h1 16 6, 3) else (number hash 10 7, 2)
      | [] => (([], 0), 2)
    if p.1.2 = 0 then ([], 0) else (p.1.1, p.2 + p.1.2)
  | 38 :: rest =>
    let name := rest.takeWhile notSemi
    if name.length < rest.length ∧ named name ≠ [] then (named name, name.length + 2) else ([], 0)
  | _ => ([], 0)
/-- escape.Unescape, of at most so many steps. -/
def unescapeK : Nat → List UInt8 → List UInt8
  | 0, _ => []
  | _ + 1, [] => []
  | k + 1, c :: r =>
    if c = 92 ∧ (r.head?.map markC).getD false = true then r.head?.toList ++ unescapeK k r.tail
    else if 0 < (entity (c :: r)).2 then (entity (c :: r)).1 ++ unescapeK k ((c :: r).drop (entity (c :: r)).2)
    else c :: unescapeK k r
def unescape (l : List UInt8) : List UInt8 := unescapeK l.length l

/-- leaf.gap, leaf.run. -/
def gap (l : List UInt8) : Bool := l.all (fun c => c = 32 ∨ c = 9)
def run (l : List UInt8) (c : UInt8) : Nat := (l.takeWhile (· = c)).length
def underline (l : List UInt8) : Nat :=
  if 0 < run l 61 ∧ gap (l.drop (run l 61)) then 1 else if 0 < run l 45 ∧ gap (l.drop (run l 45)) then 2 else 0
end Go.Proofs.YthdlibgiejpjeaaGreatDoor.Spec
