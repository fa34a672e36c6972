/- The file system's operations, as plain data; what holds of it always. No program. -/
import Derived.Test.YthbfkjmpaifblaaFsM
import Derived.Shelf.GgClosure.StringsIndexFunc
namespace Go.Proofs.Ythbfkjmpaifblaa

/-- A rune that no name has. -/
def oddR (r : Nat) : Bool := (decide (r < 97) || decide (122 < r)) && (decide (r < 48) || decide (57 < r)) && r != 45 && r != 46 && r != 47
/-- May a name be? -/
def okName (n : ByteArray) : Bool :=
  decide (n.size ≠ 0) && decide (n.size ≤ 100) && !decide (0 ≤ Lib.idxFunc oddR true n) && (n.get! 0 != 47) && (n.get! (n.size - 1) != 47)
namespace FsS
def on (F : FsS) (n : ByteArray) (k : FileS → FsS × Int) : FsS × Int := if F.down then (F, 5) else match F.find n with | none => (F, 2) | some x => k x
def sync (F : FsS) (n : ByteArray) : FsS × Int := F.on n fun x => F.write fun G => G.set n ⟨x.data, x.data.length⟩
def append (F : FsS) (n : ByteArray) (b : List UInt8) : FsS × Int := F.on n fun x => if F.room - F.used < b.length then (F, 4) else F.write fun G => { G.set n ⟨x.data ++ b, x.synced⟩ with used := G.used + b.length }
/-- A file is cut. -/
def cut (F : FsS) (n : ByteArray) (x : FileS) (k : Nat) : FsS := { F.set n ⟨x.data.take k, min x.synced k⟩ with used := F.used - (x.data.length - k) }
def truncate (F : FsS) (n : ByteArray) (k : Int) : FsS × Int := F.on n fun x => if k < 0 ∨ (x.data.length : Int) < k then (F, 6) else F.write fun G => G.cut n x k.toNat
def remove (F : FsS) (n : ByteArray) : FsS × Int := F.on n fun x => F.write fun G => { G with used := G.used - x.data.length, files := dropL slt G.files n }
def create (F : FsS) (n : ByteArray) : FsS × Int :=
  if F.down then (F, 5) else if okName n = false then (F, 1) else if (F.find n).isSome then (F, 3) else if 400 ≤ F.files.length then (F, 4) else F.write fun G => G.set n ⟨[], 0⟩
/-- A file goes to another name, over what stood there. -/
def moved (G : FsS) (a b : ByteArray) (x : FileS) : FsS :=
  if a = b then G else { G with used := G.used - (match G.find b with | none => 0 | some y => (y.data.length : Int)), files := dropL slt (putL slt G.files b x) a }
def rename (F : FsS) (a b : ByteArray) : FsS × Int := F.on a fun x => if okName b = false then (F, 1) else F.write fun G => G.moved a b x
end FsS

def sumLen (l : List (ByteArray × FileS)) : Int := (l.map fun x => (x.2.data.length : Int)).sum
structure FsOk (F : FsS) (k : Nat) : Prop where
  rise : Rise slt F.files
  room0 : 0 ≤ F.room
  room1 : F.room ≤ 67108864
  used : F.used = sumLen F.files
  fits : F.used ≤ F.room
  synced : ∀ x ∈ F.files, x.2.synced ≤ x.2.data.length
  armed0 : 0 ≤ F.armed
  armed1 : F.armed ≤ 9223372036854775807
  steps0 : 0 ≤ F.steps
  steps1 : F.steps ≤ k
  few : F.files.length ≤ 400
  valid : ∀ x ∈ F.files, okName x.1 = true
theorem sumLen_nonneg (l : List (ByteArray × FileS)) : 0 ≤ sumLen l := by
  induction l with
  | nil => simp [sumLen]
  | cons x l ih => simp only [sumLen, List.map_cons, List.sum_cons] at ih ⊢; omega
theorem sumLen_append (a b : List (ByteArray × FileS)) : sumLen (a ++ b) = sumLen a + sumLen b := by simp [sumLen]
theorem sumLen_cons (x : ByteArray × FileS) (b : List (ByteArray × FileS)) : sumLen (x :: b) = x.2.data.length + sumLen b := by simp [sumLen]
theorem sumLen_mem {l : List (ByteArray × FileS)} {x : ByteArray × FileS} (h : x ∈ l) : (x.2.data.length : Int) ≤ sumLen l := by
  obtain ⟨a, b, rfl⟩ := List.append_of_mem h
  rw [sumLen_append, sumLen_cons]
  have := sumLen_nonneg a
  have := sumLen_nonneg b
  omega
section
variable {F : FsS} {k : Nat}
theorem FsOk.used0 (h : FsOk F k) : 0 ≤ F.used := by rw [h.used]; exact sumLen_nonneg _
theorem FsOk.find_mem {n : ByteArray} {x : FileS} (hx : F.find n = some x) : (n, x) ∈ F.files := by
  obtain ⟨a, b, e⟩ := findL_split slt_ord hx
  rw [e]; simp
theorem FsOk.len (h : FsOk F k) {n : ByteArray} {x : FileS} (hx : F.find n = some x) : (x.data.length : Int) ≤ 67108864 ∧ x.synced ≤ x.data.length ∧ (x.data.length : Int) ≤ F.used := by
  have hm := FsOk.find_mem hx
  have h1 := sumLen_mem hm
  have h2 := h.used
  have h3 := h.fits
  have h4 := h.room1
  have h5 := h.synced _ hm
  simp only at h1 h5
  omega
end
end Go.Proofs.Ythbfkjmpaifblaa
