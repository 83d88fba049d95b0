/-
  A disk in plain words: files, writes that are not safe, what each call makes of them. No condition of its own.
-/
import Derived.Test.YtlgfkjaiifkacaaBase
namespace Go.Proofs.Ytlgfkjaiifkacaa
open Go Go.RowKit

/-- A file. -/
structure Fl where
  id : Nat
  now : List ByteArray
  safe : List ByteArray
  known : Bool
/-- A write that is not safe. -/
structure Wr where
  id : Nat
  pos : Nat
  data : ByteArray
/-- A disk. -/
structure Ds where
  fs : List (ByteArray × Fl)
  ws : List Wr
  off : Bool
  room : Int
  armed : Bool
  left : Int
  keep : List Int
  next : Nat
def Ds.find (d : Ds) (s : ByteArray) : Option Fl := (d.fs.find? fun p => decide (p.1 = s)).map (·.2)
/-- A file turns. -/
def updF (fs : List (ByteArray × Fl)) (id : Nat) (f : Fl → Fl) : List (ByteArray × Fl) := fs.map fun p => if p.2.id = id then (p.1, f p.2) else p
/-- Sectors are sectors; no two files are called alike, or are one. -/
structure Ds.ok (d : Ds) : Prop where
  names : (d.fs.map (·.1)).Nodup
  ids : (d.fs.map (·.2.id)).Nodup
  few : d.fs.length ≤ 60
  short : ∀ p ∈ d.fs, 1 ≤ p.1.size ∧ p.1.size ≤ 40
  now : ∀ p ∈ d.fs, p.2.now.length ≤ 4001 ∧ ∀ s ∈ p.2.now, s.size = 256
  safe : ∀ p ∈ d.fs, p.2.safe.length ≤ 4001 ∧ ∀ s ∈ p.2.safe, s.size = 256
  ws : ∀ x ∈ d.ws, x.pos ≤ 4000 ∧ x.data.size = 256 ∧ x.id < d.next
  next : ∀ p ∈ d.fs, p.2.id < d.next
/-- Each write's file is there. -/
def Ds.live (d : Ds) : Prop := ∀ x ∈ d.ws, ∃ p ∈ d.fs, p.2.id = x.id
/-- Armed for a number. -/
def Ds.rd (d : Ds) : Prop := d.armed = true → 0 ≤ d.left ∧ d.left ≤ 9223372036854775807
def nameOk (s : ByteArray) : Bool := decide (1 ≤ s.size) && decide (s.size ≤ 40)
def usedD (d : Ds) : Nat := (d.fs.map fun p => p.2.now.length).sum
/-- Something would be done: does the power go now? -/
def goesD (d : Ds) : Bool × Ds := if d.armed then (decide (d.left - 1 < 0), { d with left := d.left - 1 }) else (false, d)
/-- The writes of a file from a sector on are forgotten. -/
def forgetD (d : Ds) (id : Nat) (pos : Int) : Ds := { d with ws := d.ws.filter fun x => !(decide (x.id = id) && decide (pos ≤ (x.pos : Int))) }
/-- How many bytes of the i-th write are kept. -/
def keptD (keep : List Int) (i : Nat) : Nat := match keep[i]? with
  | some k => (min (max k 0) 256).toNat
  | none => 0
def zeros256 : ByteArray := ⟨(List.replicate 256 (0 : UInt8)).toArray⟩
/-- What is safe gets so many sectors at least. -/
def padTo (l : List ByteArray) (n : Nat) : List ByteArray := l ++ List.replicate (n - l.length) zeros256
/-- A write is done upon what is safe: its first k bytes. -/
def redoL (l : List ByteArray) (pos : Nat) (data : ByteArray) (k : Nat) : List ByteArray :=
  (padTo l (pos + 1)).set pos (data.extract 0 k ++ ((padTo l (pos + 1)).getD pos ByteArray.empty).extract k 256)
def redoF (x : Wr) (k : Nat) (f : Fl) : Fl := { f with safe := redoL f.safe x.pos x.data k, known := true }
def redo1 (fs : List (ByteArray × Fl)) (x : Wr) (k : Nat) : List (ByteArray × Fl) := if 0 < k then updF fs x.id (redoF x k) else fs
/-- The first n writes are done, as far as they are kept. -/
def redoN (keep : List Int) (fs : List (ByteArray × Fl)) (ws : List Wr) : Nat → List (ByteArray × Fl)
  | 0 => fs
  | n + 1 => match ws[n]? with
    | some x => redo1 (redoN keep fs ws n) x (keptD keep n)
    | none => redoN keep fs ws n
/-- How many of the first n are not kept whole. -/
def lostN (keep : List Int) (n : Nat) : Nat := (List.range n).countP fun i => decide (keptD keep i < 256)
/-- What a crash leaves of the files. -/
def leftF (fs : List (ByteArray × Fl)) : List (ByteArray × Fl) := (fs.filter fun p => p.2.known).map fun p => (p.1, { p.2 with now := p.2.safe })
def crashD (d : Ds) (keep : List Int) : Nat × Ds :=
  if d.off then (0, d) else (lostN keep d.ws.length, { d with fs := leftF (redoN keep d.fs d.ws d.ws.length), ws := [], off := true, armed := false, keep := [] })
/-- The power goes as it was armed for. -/
def fallD (d : Ds) : Int × Ds := (14, (crashD d d.keep).2)
/-- A disk that is asked by a name: the reason why not. -/
def mayD (d : Ds) (s : ByteArray) : Int := if d.off then 14 else if nameOk s then 0 else 1
/-- The same, and the file. -/
def fileD (d : Ds) (s : ByteArray) : Int × Option Fl := if mayD d s ≠ 0 then (mayD d s, none) else match d.find s with
  | none => (8, none)
  | some f => (0, some f)
def sizeOf_ (d : Ds) (s : ByteArray) : Nat := match d.find s with
  | none => 0
  | some f => f.now.length
def fitsD (d : Ds) (s : ByteArray) (pos : Int) : Bool :=
  !((d.find s).isNone && decide (60 ≤ d.fs.length)) && (!((d.find s).isNone || decide (pos = (sizeOf_ d s : Int))) || decide (d.room ≤ 0) || decide ((usedD d : Int) < d.room))
def putSec (l : List ByteArray) (pos : Nat) (x : ByteArray) : List ByteArray := if pos = l.length then l ++ [x] else l.set pos x
def putF (pos : Nat) (x : ByteArray) (f : Fl) : Fl := { f with now := putSec f.now pos x }
/-- The file is there. -/
def withF (d : Ds) (s : ByteArray) : Ds × Nat := match d.find s with
  | some f => (d, f.id)
  | none => ({ d with fs := d.fs ++ [(s, ⟨d.next, [], [], false⟩)], next := d.next + 1 }, d.next)
def writeD (d : Ds) (s : ByteArray) (pos : Int) (x : ByteArray) : Int × Ds :=
  if mayD d s ≠ 0 then (mayD d s, d) else if x.size ≠ 256 then (1, d) else if pos < 0 ∨ (sizeOf_ d s : Int) < pos ∨ 4000 < pos then (15, d) else if fitsD d s pos = false then (20, d) else
    let q := withF (goesD d).2 s
    let d2 : Ds := { q.1 with fs := updF q.1.fs q.2 (putF pos.toNat x), ws := q.1.ws ++ [⟨q.2, pos.toNat, x⟩] }
    if (goesD d).1 then fallD d2 else (0, d2)
def readD (d : Ds) (s : ByteArray) (pos : Int) : ByteArray × Int := match (fileD d s).2 with
  | some f => if pos < 0 ∨ (f.now.length : Int) ≤ pos then (ByteArray.empty, 15) else (f.now.getD pos.toNat ByteArray.empty, 0)
  | none => (ByteArray.empty, (fileD d s).1)
def sizeD (d : Ds) (s : ByteArray) : Int × Int := match (fileD d s).2 with
  | some f => (f.now.length, 0)
  | none => (0, (fileD d s).1)
def syncF (f : Fl) : Fl := { f with safe := f.now, known := true }
def syncD (d : Ds) (s : ByteArray) : Int × Ds := match (fileD d s).2 with
  | some f => if (goesD d).1 then fallD (goesD d).2 else (0, forgetD { (goesD d).2 with fs := updF (goesD d).2.fs f.id syncF } f.id 0)
  | none => ((fileD d s).1, d)
def shutF (n : Nat) (f : Fl) : Fl := { f with now := f.now.take n, safe := f.safe.take n }
def cutD (d : Ds) (s : ByteArray) (n : Int) : Int × Ds := match (fileD d s).2 with
  | some f => if n < 0 ∨ (f.now.length : Int) < n then (15, d) else if (goesD d).1 then fallD (goesD d).2 else (0, forgetD { (goesD d).2 with fs := updF (goesD d).2.fs f.id (shutF n.toNat) } f.id n)
  | none => ((fileD d s).1, d)
/-- A file goes, and its writes. -/
def dropD (d : Ds) (f : Fl) : Ds := { forgetD d f.id 0 with fs := d.fs.filter fun p => !decide (p.2.id = f.id) }
def removeD (d : Ds) (s : ByteArray) : Int × Ds := match (fileD d s).2 with
  | some f => if (goesD d).1 then fallD (goesD d).2 else (0, dropD (goesD d).2 f)
  | none => ((fileD d s).1, d)
def nameF (fs : List (ByteArray × Fl)) (id : Nat) (s : ByteArray) : List (ByteArray × Fl) := fs.map fun p => if p.2.id = id then (s, p.2) else p
def renameD (d : Ds) (a b : ByteArray) : Int × Ds :=
  if d.off then (14, d) else if nameOk a = false ∨ nameOk b = false then (1, d) else match d.find a with
    | none => (8, d)
    | some f => if (goesD d).1 then fallD (goesD d).2 else if a = b then (0, (goesD d).2) else
      let d1 := match d.find b with
        | some o => dropD (goesD d).2 o
        | none => (goesD d).2
      (0, { d1 with fs := nameF d1.fs f.id b })
def restoreD (d : Ds) : Ds := { d with off := false }
def armD (d : Ds) (n : Int) (keep : List Int) : Ds := { d with armed := decide (0 ≤ n), left := n, keep := keep }
def newD (room : Int) : Ds := ⟨[], [], false, room, false, 0, [], 0⟩
theorem newD_ok (room : Int) : (newD room).ok := ⟨by simp [newD], by simp [newD], by simp [newD], by simp [newD], by simp [newD], by simp [newD], by simp [newD], by simp [newD]⟩
theorem newD_live (room : Int) : (newD room).live := fun x hx => by simp [newD] at hx
theorem newD_rd (room : Int) : (newD room).rd := fun h => by simp [newD] at h
end Go.Proofs.Ytlgfkjaiifkacaa
