/- What is written of messages and notes: plain data, their bytes, which of them are plain. No program. -/
import Derived.Test.YtmhcjkiaogimgaaMem2
namespace Go.Proofs.Ytmhcjkiaogimgaa
open Go.RowKit

/-- A string's bytes. -/
def strB (s : ByteArray) : List Int := s.data.toList.map fun b => (b.toNat : Int)
theorem strB_length (s : ByteArray) : (strB s).length = s.size := by simp [strB]
/-- P6.1: a number. -/
def vb (z : Int) : List Int := if 127 < z then (z % 128 + 128) :: vb (z / 128) else [z % 256]
termination_by z.toNat
decreasing_by omega
def tb (s : ByteArray) : List Int := vb s.size ++ strB s

theorem vb_big {z : Int} (h : 127 < z) : vb z = (z % 128 + 128) :: vb (z / 128) := by rw [vb, if_pos h]
theorem vb_small {z : Int} (h : z ≤ 127) : vb z = [z % 256] := by rw [vb, if_neg (by omega)]
theorem vb_length_le (k : Nat) : ∀ z : Int, z < 128 ^ (k + 1) → (vb z).length ≤ k + 1 := by
  induction k with
  | zero => intro z hz; rw [vb_small (by omega)]; simp
  | succ k ih =>
    intro z hz
    by_cases h : 127 < z
    · rw [vb_big h, List.length_cons]
      have := ih (z / 128) (by
        have : (128 : Int) ^ (k + 1 + 1) = 128 ^ (k + 1) * 128 := Int.pow_succ ..
        omega)
      omega
    · rw [vb_small (by omega)]; simp
theorem vb_length_i64 {z : Int} (h : z ≤ 9223372036854775807) : (vb z).length ≤ 9 := vb_length_le 8 z (by omega)
theorem vb_pos (z : Int) : 0 < (vb z).length := by
  rw [vb]; split <;> simp
theorem tb_length {s : ByteArray} (h : s.size ≤ 9223372036854775807) : (tb s).length ≤ 9 + s.size := by
  have := vb_length_i64 (z := s.size) (by omega)
  rw [tb, List.length_append, strB_length]; omega

structure KeyD where
  dir : Int
  name : ByteArray
deriving DecidableEq
structure NodeD where
  id : Int
  kind : Int
  mode : Int
  target : ByteArray
deriving DecidableEq
structure EntryD where
  key : KeyD
  neg : Bool
  node : NodeD
deriving DecidableEq
structure OpD where
  kind : Int
  dir : Int
  name : ByteArray
  to : Int
  new : ByteArray
  mode : Int
  target : ByteArray
deriving DecidableEq
structure SeenD where
  life : Int
  seq : Int
  err : Int
deriving DecidableEq
structure NoteD where
  kind : Int
  epoch : Int
  version : Int
  next : Int
  client : Int
  entry : EntryD
  seen : SeenD
  op : OpD
deriving DecidableEq

def KeyD.cells (k : KeyD) : List Value := [.int .i64 k.dir, .string k.name]
def NodeD.cells (n : NodeD) : List Value := [.int .i64 n.id, .int .i64 n.kind, .int .i64 n.mode, .string n.target]
def EntryD.cells (x : EntryD) : List Value := [.int .i64 x.key.dir, .string x.key.name, .bool x.neg, .int .i64 x.node.id, .int .i64 x.node.kind, .int .i64 x.node.mode, .string x.node.target]
def OpD.cells (o : OpD) : List Value := [.int .i64 o.kind, .int .i64 o.dir, .string o.name, .int .i64 o.to, .string o.new, .int .i64 o.mode, .string o.target]
def NoteD.cells (n : NoteD) : List Value := [.int .i64 n.kind, .int .i64 n.epoch, .int .i64 n.version, .int .i64 n.next, .int .i64 n.client,
  .int .i64 n.entry.key.dir, .string n.entry.key.name, .bool n.entry.neg, .int .i64 n.entry.node.id, .int .i64 n.entry.node.kind, .int .i64 n.entry.node.mode, .string n.entry.node.target,
  .int .i64 n.seen.life, .int .i64 n.seen.seq, .int .i64 n.seen.err,
  .int .i64 n.op.kind, .int .i64 n.op.dir, .string n.op.name, .int .i64 n.op.to, .string n.op.new, .int .i64 n.op.mode, .string n.op.target]

def NodeD.zero : NodeD := ⟨0, 0, 0, ⟨#[]⟩⟩
def KeyD.zero : KeyD := ⟨0, ⟨#[]⟩⟩
def EntryD.zero : EntryD := ⟨KeyD.zero, false, NodeD.zero⟩
def OpD.zero : OpD := ⟨0, 0, ⟨#[]⟩, 0, ⟨#[]⟩, 0, ⟨#[]⟩⟩
def SeenD.zero : SeenD := ⟨0, 0, 0⟩

/-- P6.2: which are plain. -/
def okN (v : Int) : Bool := decide (0 ≤ v ∧ v ≤ 1099511627776)
def okT (s : ByteArray) : Bool := decide (s.size ≤ 96)
def okIn (v a b : Int) : Bool := decide (a ≤ v ∧ v ≤ b)
def KeyD.ok (k : KeyD) : Bool := okN k.dir && okT k.name
def EntryD.ok (x : EntryD) : Bool := x.key.ok && if x.neg then decide (x.node = NodeD.zero) else okN x.node.id && okN x.node.mode && okIn x.node.kind 1 3 && okT x.node.target
def OpD.ok (o : OpD) : Bool := okIn o.kind 1 11 && (okN o.dir && okN o.to && okN o.mode) && (okT o.name && okT o.new && okT o.target)
/-- A note with the fields alone that its kind names. -/
def NoteD.named (n : NoteD) : NoteD :=
  if n.kind = 1 then ⟨n.kind, n.epoch, 0, 0, 0, EntryD.zero, SeenD.zero, OpD.zero⟩
  else if n.kind = 2 then ⟨n.kind, n.epoch, n.version, n.next, 0, EntryD.zero, SeenD.zero, OpD.zero⟩
  else if n.kind = 3 then ⟨n.kind, 0, 0, 0, 0, n.entry, SeenD.zero, OpD.zero⟩
  else if n.kind = 4 then ⟨n.kind, 0, 0, 0, n.client, EntryD.zero, n.seen, OpD.zero⟩
  else ⟨n.kind, 0, 0, 0, n.client, EntryD.zero, n.seen, n.op⟩
def NoteD.nums (n : NoteD) : List Int := [n.epoch, n.version, n.next, n.client, n.seen.life, n.seen.seq, n.seen.err]
def NoteD.ok (n : NoteD) : Bool := okIn n.kind 1 5 && decide (n = n.named) && n.nums.all okN &&
  (if n.kind = 3 then !n.entry.neg && n.entry.ok else if n.kind = 5 then n.op.ok else true)

/-- P6.1: what is written. -/
def KeyD.enc (k : KeyD) : List Int := vb k.dir ++ tb k.name
def EntryD.enc (x : EntryD) : List Int := x.key.enc ++ if x.neg then [1] else [0] ++ vb x.node.id ++ [x.node.kind % 256] ++ vb x.node.mode ++ tb x.node.target
def OpD.enc (o : OpD) : List Int := [o.kind % 256] ++ vb o.dir ++ tb o.name ++ vb o.to ++ tb o.new ++ vb o.mode ++ tb o.target
def NoteD.enc (n : NoteD) : List Int := [n.kind % 256] ++
  if n.kind = 1 then vb n.epoch else if n.kind = 2 then vb n.epoch ++ vb n.version ++ vb n.next else if n.kind = 3 then n.entry.enc
  else vb n.client ++ vb n.seen.life ++ vb n.seen.seq ++ vb n.seen.err ++ if n.kind = 5 then n.op.enc else []

/-- Strings, as values. -/
def strs (l : List ByteArray) : List Value := l.map .string
theorem strs_get (l : List ByteArray) (j : Nat) (h : j < l.length) : (strs l)[j]? = some (.string (l.getD j ByteArray.empty)) := by
  simp [strs, List.getD_eq_getElem?_getD, List.getElem?_eq_getElem h]
def bvals (l : List Int) : List Value := l.map (Value.int .u8)
theorem bvals_append (a b : List Int) : bvals (a ++ b) = bvals a ++ bvals b := by simp [bvals]
theorem bvals_length (l : List Int) : (bvals l).length = l.length := by simp [bvals]
theorem bvals_get (l : List Int) (j : Nat) (h : j < l.length) : (bvals l)[j]? = some (.int .u8 (l.getD j 0)) := ints_get .u8 l j h
theorem bvals_one (l : List Int) : ∀ u ∈ bvals l, u.oneCell' = true := ints_one .u8 l

end Go.Proofs.Ytmhcjkiaogimgaa
