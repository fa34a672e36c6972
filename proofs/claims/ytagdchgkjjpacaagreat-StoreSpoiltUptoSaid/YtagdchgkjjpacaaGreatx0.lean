/- What the walk needs beyond the common front. -/
import Derived.Test.YtagdchgkjjpacaaGreatz40
import Derived.Test.YtagdchgkjjpacaaGreatz41
import Derived.Test.YtagdchgkjjpacaaGreatz42
import Derived.Test.YtagdchgkjjpacaaGreatz43
import Derived.Test.YtagdchgkjjpacaaGreatz44
import Derived.Test.YtagdchgkjjpacaaGreatz45
import Derived.Test.YtagdchgkjjpacaaGreatz46
import Derived.Test.YtagdchgkjjpacaaGreatz47
import Derived.Test.YtagdchgkjjpacaaGreatz48
import Derived.Test.YtagdchgkjjpacaaGreatz49
import Derived.Test.YtagdchgkjjpacaaGreatZjw
import Derived.Lib.SlBytesConst
import Derived.Test.YtagdchgkjjpacaaGreatRows
import Derived.ProofKit
import Derived.OpenShut
import Derived.JoinedCond
import Derived.Deep.Slices
import Derived.Deep.Fields
import Derived.ChangeSame
set_option maxRecDepth 100000
open Go.Lib (hid)
namespace Go.Proofs.YtagdchgkjjpacaaGreat
open Go.RowKit Go.Shelf
section
variable {w : World}
abbrev litObj (ys : List UInt8) : Obj := .cells (ys.map fun b => Value.int .u8 (b.toNat : Int)).toArray 5 (ys.length, ys.length + 1)
theorem lit_bytes (W : World) (ys : List UInt8) : Hid (RdAt byteKind (W.alloc (litObj ys)) (.slice (some ⟨W.heap.size, 0, none⟩) ys.length ys.length) ys) := hid (by
 refine ⟨_, _, rfl, fun j x hx => ⟨W.heap.size, 0, rfl, fun i hi => ?_⟩⟩
 have hi0 : i = 0 := by have : i < 1 := hi; omega
 subst hi0
 have hb := heap_alloc_new W (litObj ys)
 have hc : (W.alloc (litObj ys)).cell? ⟨W.heap.size, 0 + j * 1 + 0, none⟩ = ((ys.map fun b => Value.int .u8 (b.toNat : Int)).toArray)[0 + j * 1 + 0]? := by simp only [World.cell?, hb]; rw [if_neg (by simp)]
 refine hc.trans ?_
 simp [hx, byteKind])
theorem append_lit {fb : Nat} {F : FsS} {S : Nat → Prop} (h : FsIs w fb F S) {k : Nat} (ho : FsOk F k) (hk : k < 1000000) (n : ByteArray) (ys : List UInt8) (hy : ys.length ≤ 100) :
 Calls Tryz.prog 23 #[.pointer (some ⟨fb, 0, none⟩), .string n, .slice (some ⟨w.heap.size, 0, none⟩) ys.length ys.length] (w.alloc (litObj ys)) fun e w' => e = .returned (.int .i64 (F.append n ys).2) ∧ FsPost w fb (F.append n ys).1 S w' := by
 have hb : Below w.heap.size w (w.alloc (litObj ys)) := (Below.refl _ _).alloc (Nat.le_refl _) _
 obtain ⟨mb, rs, h1⟩ := h.below hb
 refine (f_append h1 ho hk n (lit_bytes w ys).out (by omega)).mono ?_
 rintro e w' ⟨rfl, hp⟩
 exact ⟨rfl, FsPost.trans_keeps hb h.lt hp⟩
end
section
variable {w0 w w' : World} {fb k : Nat} {F G : FsS} {S : Nat → Prop}
theorem d_truncate (h : Hd w0 w fb F k S) (hk : k < 1000000) (n : ByteArray) (m : Int) : Calls Tryz.prog 29 #[.pointer (some ⟨fb, 0, none⟩), .string n, .int .i64 m] w fun e w' => e = .returned (.int .i64 (F.truncate n m).2) ∧ Hd w0 w' fb (F.truncate n m).1 (k + 1) (New w w' S) ∧ Keeps S w w' := by
 obtain ⟨mb, rs, h1⟩ := h.fs
 exact (f_truncate h1 h.ok hk n m).mono fun _ _ ⟨he, hp⟩ => ⟨he, h.post hp (h.ok.truncate n m), hp.2⟩
theorem d_append (h : Hd w0 w fb F k S) (hk : k < 1000000) (n : ByteArray) {u : Value} {ys : List UInt8} (hu : RdAt byteKind w0 u ys) (hy : ys.length ≤ 9223372036854775807) :
 Calls Tryz.prog 23 #[.pointer (some ⟨fb, 0, none⟩), .string n, u] w fun e w' => e = .returned (.int .i64 (F.append n ys).2) ∧ Hd w0 w' fb (F.append n ys).1 (k + 1) (New w w' S) ∧ Keeps S w w' := by
 obtain ⟨mb, rs, h1⟩ := h.fs
 exact (f_append h1 h.ok hk n (hu.below h.below) hy).mono fun _ _ ⟨he, hp⟩ => ⟨he, h.post hp (h.ok.append n ys), hp.2⟩
end
open Go.RowKit
section
variable {F G : FsS} {n : ByteArray} {x y : FileS} {dir : ByteArray} {first : Nat} {ds : List FileS} {d : FileS}
theorem Segs.other (h : Segs F dir first ds) (hn : segNum dir n = 0) (hf : G.files = putL slt F.files n y) : Segs G dir first ds := by
 have hfp := find_put h.rise hf
 refine ⟨by rw [hf]; exact rise_putL slt_ord h.rise _ _, h.pos, h.top, fun j d hd => ?_, fun m x hx hm => ?_⟩
 ·have hl := (List.getElem?_eq_some_iff.1 hd).1
  rw [hfp, if_neg (fun e => by have := segNum_name dir (h.name_lt hl); rw [e, hn] at this; have := h.pos; omega)]
  exact h.at_ j d hd
 ·rw [hfp] at hx
  split at hx
  ·rename_i e; subst e; exact absurd hn hm
  ·exact h.only m x hx hm
end
section
variable {F G : FsS} {dir : ByteArray} {size : Int} {first : Nat} {ds : List FileS} {x : FileS} {L : LogS} {segs pre : List (List UInt8)} {b p : List UInt8}
structure Opened (F : FsS) (dir : ByteArray) (first : Nat) (ds : List FileS) (x : FileS) (G : FsS) (y : FileS) : Prop where
 sg : Segs G dir first (ds ++ [y])
 data : y.data = x.data.take (endOf (scanOf x.data))
 synced : x.synced = x.data.length → y.synced = y.data.length
 down : G.down = false
 calm : G.armed = 0
 room : G.room = F.room
 used : G.used = F.used - ((x.data.length : Int) - endOf (scanOf x.data))
 few : G.files.length = F.files.length
 others : ∀ m, segNum dir m = 0 → G.find m = F.find m
 whole : Whole_ x → G = F
theorem open_out (hs : Segs F dir first (ds ++ [x])) (hw : ∀ d ∈ ds, Whole_ d) (hd : F.down = false) (ha : F.armed = 0) (hok : okName (segName dir 1) = true) (h16 : 16 ≤ size) (h20 : size ≤ 1048576) :
 ∃ G y, openL F dir size = (G, ⟨dir, size, first, first + ds.length, x.data.length - endOf (scanOf x.data), false⟩, recsOf (ds ++ [x]), 0) ∧ Opened F dir first ds x G y := by
 have hpos := hs.pos
 have hn := hs.nums (by simp)
 have hlen : (ds ++ [x]).length = ds.length + 1 := by simp
 rw [hlen] at hn
 have hlast : first + (ds.length + 1) - 1 = first + ds.length := by omega
 rw [hlast] at hn
 have hO : openL F dir size = openR F dir size first (first + ds.length) := by
  unfold openL
  rw [if_neg (by simp [hok]), if_neg (by omega), if_neg (by simp [hd]), hn]
  simp only
  rw [if_neg (by omega)]
 have hle := scan_end x.data
 have hrd := read_whole (F := F) (dir := dir) (last := first + ds.length) (cut := 0) ds first [] (fun i d hi => ⟨hs.at_ i d (by rw [List.getElem?_append_left (List.getElem?_eq_some_iff.1 hi).1]; exact hi), hw d (List.mem_of_getElem? hi)⟩) 1
 rw [List.nil_append] at hrd
 have hx : F.find (segName dir (first + ds.length)) = some x := hs.at_ ds.length x (by simp)
 have hrecs : ds.flatMap (fun d => scanOf d.data) ++ scanOf x.data = recsOf (ds ++ [x]) := by simp [recsOf]
 unfold openR at hO
 rw [show first + ds.length + 1 - first = ds.length + 1 by omega, hrd] at hO
 by_cases he : endOf (scanOf x.data) = x.data.length
 ·rw [readF_whole rfl hx he] at hO
  rw [show x.data.length - endOf (scanOf x.data) = 0 by omega]
  refine ⟨F, x, by rw [hO, hrecs]; rfl, hs, by rw [he]; simp, fun e => e, hd, ha, rfl, by rw [he]; omega, rfl, fun _ _ => rfl, fun _ => rfl⟩
 ·obtain ⟨E, hE⟩ : ∃ E, E = endOf (scanOf x.data) := ⟨_, rfl⟩
  have h1 := trunc_wr (n := segName dir (first + ds.length)) (k := E) hd hx (by omega)
  rcases h1 with ⟨e1, D1⟩ | ⟨_, D1⟩
  ·have hf1 := find_put hs.rise D1.files (segName dir (first + ds.length))
   rw [if_pos rfl] at hf1
   have hr1 : Rise slt (F.truncate (segName dir (first + ds.length)) (E : Int)).1.files := by rw [D1.files]; exact rise_putL slt_ord hs.rise _ _
   have hs1 := hs.put (i := ds.length) (y := ⟨x.data.take E, min x.synced E⟩) (G := (F.truncate (segName dir (first + ds.length)) (E : Int)).1) (by simp) D1.files
   have h2 := sync_wr (F := (F.truncate (segName dir (first + ds.length)) (E : Int)).1) (by rw [D1.down]; exact hd) hf1
   have hl1 : (F.truncate (segName dir (first + ds.length)) (E : Int)).1.files.length = F.files.length := by rw [D1.files]; exact put_len hx hs.rise _
   have ho1 : ∀ m, segNum dir m = 0 → (F.truncate (segName dir (first + ds.length)) (E : Int)).1.find m = F.find m := fun m hm => by
    rw [find_put hs.rise D1.files, if_neg]
    intro e
    rw [e, segNum_name dir (hs.name_lt (by simp))] at hm
    omega
   rcases h2 with ⟨e2, D2⟩ | ⟨_, D2⟩
   ·have hs2 := hs1.put (i := ds.length) (y := fl (x.data.take E)) (G := ((F.truncate (segName dir (first + ds.length)) (E : Int)).1.sync (segName dir (first + ds.length))).1) (by simp) D2.files
    have hcut := readF_cut (c := 0) (last := first + ds.length) (cut := 0) (out := ds.flatMap fun d => scanOf d.data) rfl hx he (by omega) (by rw [← hE]; exact e1) (by rw [← hE]; exact e2)
    rw [← hE] at hcut
    rw [hcut] at hO
    rw [← hE]
    refine ⟨((F.truncate (segName dir (first + ds.length)) (E : Int)).1.sync (segName dir (first + ds.length))).1, fl (x.data.take E), by rw [hO, ← hrecs]; rfl, ?_, by rw [hE], fun _ => rfl, by rw [D2.down, D1.down]; exact hd, D2.calm (D1.calm ha), by rw [D2.room, D1.room], by rw [D2.used, D1.used, hE], ?_, fun m hm => ?_, fun e => absurd e he⟩
    ·simpa using hs2
    ·rw [D2.files, put_len hf1 hr1, hl1]
    ·rw [find_put hr1 D2.files, if_neg]
     ·exact ho1 m hm
     ·intro e
      rw [e, segNum_name dir (hs.name_lt (by simp))] at hm
      omega
   ·exact absurd (D1.calm ha) D2.arm
  ·exact absurd ha D1.arm
end
open Go.ChangeShapes Go.WideShapes Go.ChangeAt Go.RowKit
theorem cellsU8 : Tryz.prog.cellsOf 5 = 1 := by kernel_rfl
instance : Inhabited FOp := ⟨⟨0, 0, .empty, .empty, []⟩⟩
section
variable {H : Type} {enc : TypeId × Value → H} {W : World} {base : Nat} {spare : Nat → Bool} {held : Bool}
theorem bytes_open {n : Nat} {cs : List Value} {x : DataW H × List MemPlace} (h : DataW.trod enc Tryz.prog W base spare held n 23 cs = some x) :
 ∃ (a : Option Addr) (cap : Nat) (ys : List UInt8), cs = [.slice a ys.length cap] ∧ RdAt byteKind W (.slice a ys.length cap) ys ∧ ys.length ≤ 9223372036854775807 := by
 rcases open_ints Tryz.underlying23 Tryz.underlying5 cellsU8 h with ⟨hcs, _⟩ | ⟨a, len, cap, zs, hcs, _, hlc, hcm, hzl, _, hc, hw⟩
 ·exact ⟨none, 0, [], hcs, ⟨none, 0, rfl, fun j x hx => by simp at hx⟩, Nat.zero_le _⟩
 ·have hle : len ≤ zs.length := by rw [hzl]; split <;> omega
  have hl : ((zs.take len).map fun z => UInt8.ofNat z.toNat).length = len := by rw [List.length_map, List.length_take]; omega
  unfold maxLen at hcm
  refine ⟨some a, cap, (zs.take len).map fun z => UInt8.ofNat z.toNat, by rw [hl]; exact hcs, ⟨some a, cap, rfl, fun j x hx => ?_⟩, by omega⟩
  have hj : j < len := by
   have := (List.getElem?_eq_some_iff.1 hx).1
   omega
  have hcj := hc j (by omega)
  have hzj : zs[j]? = some (zs.getD j 0) := by
   have hjz : j < zs.length := by omega
   rw [List.getElem?_eq_getElem hjz, List.getD_eq_getElem?_getD, List.getElem?_eq_getElem hjz]; rfl
  have hwf := hw (zs.getD j 0) (List.mem_of_getElem? hzj)
  have hbd := bounds_u8 hwf
  have ex : x = UInt8.ofNat (zs.getD j 0).toNat := by
   rw [List.getElem?_map, List.getElem?_take_of_lt hj, hzj] at hx
   exact (Option.some.inj hx).symm
  have h0 : a.spot = none := by
   have := hc 0 (by omega)
   exact spot_of_cell (a := a) (by simpa [Addr.add] using this)
  rw [add_plain h0] at hcj
  have ea : a = ⟨a.block, a.off, none⟩ := by rw [← h0]
  refine ⟨a.block, a.off, by rw [← ea], fun i hi => ?_⟩
  have hi0 : i = 0 := by have : i < 1 := hi; omega
  subst hi0
  show W.cell? ⟨a.block, a.off + j * 1 + 0, none⟩ = some (.int .u8 (x.toNat : Int))
  rw [Nat.mul_one, Nat.add_zero, hcj, ex]
  congr 2
  have : (UInt8.ofNat (zs.getD j 0).toNat).toNat = (zs.getD j 0).toNat := by
   rw [UInt8.toNat_ofNat']; omega
  omega
end
section
variable {H : Type} {enc : TypeId × Value → H} {W : World} {base : Nat} {spare : Nat → Bool} {held : Bool}
theorem bytes_openc {n : Nat} {cs : List Value} {x : DataW H × List MemPlace} (h : DataW.trod enc Tryz.prog W base spare held n 23 cs = some x) :
 ∃ (a : Option Addr) (cap : Nat) (ys : List UInt8), cs = [.slice a ys.length cap] ∧ RdAt byteKind W (.slice a ys.length cap) ys ∧ ys.length ≤ cap ∧ cap ≤ 9223372036854775807 := by
 obtain ⟨a, cap, ys, hcs, hr, _⟩ := bytes_open h
 rcases open_ints Tryz.underlying23 Tryz.underlying5 cellsU8 h with ⟨hc2, _⟩ | ⟨a2, len, cap2, zs, hc2, _, hlc, hcm, _⟩
 ·rw [hcs] at hc2
  injection hc2 with e _
  injection e with _ e2 e3
  exact ⟨a, cap, ys, hcs, hr, by omega, by omega⟩
 ·rw [hcs] at hc2
  injection hc2 with e _
  injection e with _ e2 e3
  unfold maxLen at hcm
  exact ⟨a, cap, ys, hcs, hr, by omega, by omega⟩
theorem bytes_openc_top {r : Reach} {b0 : Nat} {v : Value} {d : DataW H} {p : List MemPlace} (hv : Value.okWide Tryz.prog W r b0 23 v) (h : DataW.Trod enc Tryz.prog W base spare held 23 v d p) :
 ∃ (a : Option Addr) (cap : Nat) (ys : List UInt8), v = .slice a ys.length cap ∧ RdAt byteKind W (.slice a ys.length cap) ys ∧ ys.length ≤ cap ∧ cap ≤ 9223372036854775807 := by
 obtain ⟨a0, l0, c0, rfl⟩ := okWide_slice Tryz.underlying23 hv
 obtain ⟨fuel, hf⟩ := h
 obtain ⟨a, cap, ys, e, hr, hy⟩ := bytes_openc hf
 have e : [Value.slice a0 l0 c0] = [Value.slice a ys.length cap] := e
 injection e with e _
 exact ⟨a, cap, ys, e, hr, hy⟩
end
set_option linter.unusedSimpArgs false
set_option linter.unusedVariables false
section
variable {F G : FsS} {dir n : ByteArray} {size : Int} {first : Nat} {ds : List FileS} {x : FileS}
theorem read_bad {last cut : Nat} : ∀ (ds : List FileS) (n : Nat) (out : List (List UInt8)) (c : Nat), (∀ i d, ds[i]? = some d → F.find (segName dir (n + i)) = some d) → n + ds.length ≤ last → (∃ d ∈ ds, ¬ Whole_ d) → readF dir last (ds.length + c) n F cut out = (F, cut, [], 14)
 | [], _, _, _, _, _, ⟨d, hd, _⟩ => by simp at hd
 | d :: r, n, out, c, h, hl, hb => by
   have h0 := h 0 d rfl
   rw [Nat.add_zero] at h0
   rw [List.length_cons] at hl
   rw [show (d :: r).length + c = (r.length + c) + 1 by simp; omega]
   by_cases hw : Whole_ d
   ·rw [readF_whole rfl h0 hw]
    refine read_bad r (n + 1) _ c (fun i e hi => by have := h (i + 1) e (by simpa using hi); rwa [show n + 1 + i = n + (i + 1) by omega]) (by omega) ?_
    obtain ⟨e, he, hn⟩ := hb
    rcases List.mem_cons.1 he with h3 | h3
    ·subst h3; exact absurd hw hn
    ·exact ⟨e, h3, hn⟩
   ·exact readF_bad rfl h0 hw (by omega)
theorem open_bad {size : Int} {first : Nat} {ds : List FileS} {x : FileS} (hs : Segs F dir first (ds ++ [x])) (hok : okName (segName dir 1) = true) (h16 : 16 ≤ size) (h20 : size ≤ 1048576) (hd : F.down = false) (hb : ∃ d ∈ ds, ¬ Whole_ d) : (openL F dir size).1 = F ∧ (openL F dir size).2.2 = ([], 14) := by
 have hpos := hs.pos
 have hn := hs.nums (by simp)
 have hlen : (ds ++ [x]).length = ds.length + 1 := by simp
 rw [hlen, show first + (ds.length + 1) - 1 = first + ds.length by omega] at hn
 have hO : openL F dir size = openR F dir size first (first + ds.length) := by
  unfold openL
  rw [if_neg (by simp [hok]), if_neg (by omega), if_neg (by simp [hd]), hn]
  simp only
  rw [if_neg (by omega)]
 have hrd := read_bad (F := F) (dir := dir) (last := first + ds.length) (cut := 0) ds first [] 1 (fun i d hi => hs.at_ i d (by rw [List.getElem?_append_left (List.getElem?_eq_some_iff.1 hi).1]; exact hi)) (Nat.le_refl _) hb
 unfold openR at hO
 rw [show first + ds.length + 1 - first = ds.length + 1 by omega, hrd] at hO
 rw [hO]
 exact ⟨rfl, rfl⟩
structure AnyOut (F : FsS) (dir : ByteArray) (R : FsS × Option StS × Int) : Prop where
 others : ∀ m, ¬ inDir dir m → R.1.find m = F.find m
 down : R.1.down = false
 out : (∃ s, R.2.1 = some s ∧ R.2.2 = 0) ∨ (R.2.1 = none ∧ R.2.2 = 14)
theorem sopen_any (hs : Segs F (nmOf dir sLog) first (ds ++ [x])) (hdir : DirS dir) (h16 : 16 ≤ size) (h20 : size ≤ 1048576) (hd : F.down = false) (ha : F.armed = 0) (htop : first + ds.length ≤ 1000) :
 AnyOut F dir (openS F dir size) ∧ ((openL F (nmOf dir sLog) size).2.2.2 = 0 → (openL F (nmOf dir sLog) size).2.1.last ≤ 1000) := by
 have hS : openS F dir size = openM F dir size (manR F dir) := by
  unfold openS
  rw [if_neg (by simp [hdir.seg 1, hdir.base 1]), if_neg (by omega), if_neg (by simp [hd])]
 have hsn : ∀ m, ¬ inDir dir m → segNum (nmOf dir sLog) m = 0 := fun m hm => Classical.byContradiction fun e => hm (inDir_seg dir e)
 rw [hS]
 by_cases hw : ∀ d ∈ ds, Whole_ d
 ·obtain ⟨G, y, hO, op⟩ := open_out hs hw hd ha (hdir.seg 1) h16 h20
  refine ⟨?_, fun _ => by rw [hO]; exact htop⟩
  have oth1 : ∀ m, ¬ inDir dir m → G.find m = F.find m := fun m hm => op.others m (hsn m hm)
  cases manR F dir with
  | none => exact ⟨fun _ _ => rfl, hd, .inr ⟨rfl, rfl⟩⟩
  | some M =>
    obtain ⟨b, f, q, m⟩ := M
    show AnyOut F dir (openW dir b f q m (openL F (nmOf dir sLog) size))
    rw [hO]
    obtain ⟨L, hL⟩ : ∃ L : LogS, L = ⟨nmOf dir sLog, size, first, first + ds.length, x.data.length - endOf (scanOf x.data), false⟩ := ⟨_, rfl⟩
    rw [← hL]
    show AnyOut F dir (openP dir b f L G (replayR (recsOf (ds ++ [x])) q m))
    cases replayR (recsOf (ds ++ [x])) q m with
    | none => exact ⟨oth1, op.down, .inr ⟨rfl, rfl⟩⟩
    | some P =>
      obtain ⟨q2, m2⟩ := P
      show AnyOut F dir (openD dir b q2 m2 (if L.first < f then dropLg L G ((min f L.last : Nat) : Int) else (L, G, 0)))
      have hl1 : L.first = first := by rw [hL]
      have hl2 : L.last = first + ds.length := by rw [hL]
      have hl3 : L.stuck = false := by rw [hL]
      have hl4 : L.dir = nmOf dir sLog := by rw [hL]
      obtain ⟨k, hk, hD⟩ : ∃ k, k ≤ ds.length ∧ (if L.first < f then dropLg L G ((min f L.last : Nat) : Int) else (L, G, 0)) = dropF k L G := by
       by_cases hlt : L.first < f
       ·refine ⟨min f L.last - first, by omega, ?_⟩
        rw [if_pos hlt]
        unfold dropLg
        rw [if_neg (by simp [hl3]), if_neg (by omega)]
        congr 1
        omega
       ·exact ⟨0, Nat.zero_le _, by rw [if_neg hlt]; rfl⟩
      rw [hD]
      have hgd : Segs G L.dir L.first (ds.take k ++ (ds.drop k ++ [y])) := by
       rw [← List.append_assoc, List.take_append_drop, hl1, hl4]
       exact op.sg
      have hdo := dropF_out (ds := ds.drop k ++ [y]) (ds.take k) hgd op.down
      rw [List.length_take, Nat.min_eq_left hk] at hdo
      obtain ⟨s2, o2⟩ := hdo
      generalize dropF k L G = D at s2 o2 ⊢
      obtain ⟨L2, G2, r2⟩ := D
      have oth2 : ∀ m, ¬ inDir dir m → G2.find m = F.find m := fun m hm => (s2.others m (by rw [hl4]; simp [hsn m hm])).trans (oth1 m hm)
      rcases o2 with ⟨e2, _, d2, g2⟩ | ⟨_, _, a2, _⟩
      ·have e2 : r2 = 0 := e2
       subst e2
       show AnyOut F dir (openC dir b q2 m2 L2 (cleanR dir b (namesL (dirOf dir) G2.files) G2))
       have g2r : Rise slt G2.files := g2.rise
       obtain ⟨s3, _, o3⟩ := clean_out dir b (namesL (dirOf dir) G2.files) (names_nodup g2r) (fun k hk e => by
        obtain ⟨⟨x, hx⟩, _⟩ := (mem_names g2r).1 hk
        rw [hx] at e
        cases e) d2 g2r
       generalize cleanR dir b (namesL (dirOf dir) G2.files) G2 = C at s3 o3 ⊢
       obtain ⟨G3, r3⟩ := C
       have oth3 : ∀ m, ¬ inDir dir m → G3.find m = F.find m := fun m hm => (s3.others m fun e => hm (gone_in e)).trans (oth2 m hm)
       rcases o3 with ⟨e3, d3, _⟩ | ⟨_, _, a3⟩
       ·have e3 : r3 = 0 := e3
        subst e3
        exact ⟨oth3, d3, .inl ⟨_, rfl, rfl⟩⟩
       ·exact absurd (s2.calm op.calm).1 a3
      ·exact absurd op.calm a2
 ·obtain ⟨h1, h2⟩ := open_bad hs (hdir.seg 1) h16 h20 hd (Classical.byContradiction fun e => hw fun d hd => Classical.byContradiction fun e2 => e ⟨d, hd, e2⟩)
  refine ⟨?_, fun e => by rw [h2] at e; cases e⟩
  cases manR F dir with
  | none => exact ⟨fun _ _ => rfl, hd, .inr ⟨rfl, rfl⟩⟩
  | some M =>
    obtain ⟨b, f, q, m⟩ := M
    show AnyOut F dir (openW dir b f q m (openL F (nmOf dir sLog) size))
    generalize openL F (nmOf dir sLog) size = O at h1 h2
    obtain ⟨G, L, rs⟩ := O
    have h1 : G = F := h1
    have h2 : rs = ([], 14) := h2
    subst h1 h2
    exact ⟨fun _ _ => rfl, hd, .inr ⟨rfl, rfl⟩⟩
theorem Segs.spoil (h : Segs F dir first ds) (hx : F.find n = some x) (hf : G.files = F.files ∨ ∃ y, G.files = putL slt F.files n y) : ∃ ds', ds'.length = ds.length ∧ Segs G dir first ds' := by
 rcases hf with hf | ⟨y, hf⟩
 ·exact ⟨ds, rfl, h.congr hf⟩
 ·by_cases hn : segNum dir n = 0
  ·exact ⟨ds, rfl, h.other hn hf⟩
  ·have ho := h.only n x hx hn
   have hnm := name_of_num dir n hn
   refine ⟨ds.set (segNum dir n - first) y, by rw [List.length_set], h.put (by omega) ?_⟩
   rw [show first + (segNum dir n - first) = segNum dir n by omega, ← hnm]
   exact hf
theorem trunc_files (F : FsS) (n : ByteArray) (k : Int) : (F.truncate n k).1.files = F.files ∨ ∃ y, (F.truncate n k).1.files = putL slt F.files n y := by
 unfold FsS.truncate FsS.on
 split
 ·exact .inl rfl
 ·split
  ·exact .inl rfl
  ·try dsimp only
   split
   ·exact .inl rfl
   ·unfold FsS.write
    split
    ·split
     ·exact .inl rfl
     ·exact .inr ⟨_, rfl⟩
    ·exact .inr ⟨_, rfl⟩
theorem on_calm (F : FsS) (n : ByteArray) (k : FileS → FsS × Int) (ha : F.armed = 0) (hk : ∀ x, (k x).1.armed = 0 ∧ (k x).1.down = F.down) : (F.on n k).1.armed = 0 ∧ (F.on n k).1.down = F.down := by
 unfold FsS.on
 by_cases hd : F.down = true
 ·rw [if_pos hd]; exact ⟨ha, rfl⟩
 ·rw [if_neg hd]
  cases F.find n with
  | none => exact ⟨ha, rfl⟩
  | some x => exact hk x
theorem write_calm (F : FsS) (eff : FsS → FsS) (ha : F.armed = 0) (h : (eff F).armed = F.armed ∧ (eff F).down = F.down) : (F.write eff).1.armed = 0 ∧ (F.write eff).1.down = F.down := by
 unfold FsS.write
 rw [if_neg (by omega)]
 exact ⟨h.1.trans ha, h.2⟩
theorem trunc_calm (F : FsS) (n : ByteArray) (k : Int) (ha : F.armed = 0) : (F.truncate n k).1.armed = 0 ∧ (F.truncate n k).1.down = F.down := by
 refine on_calm F n _ ha fun x => ?_
 try dsimp only
 split
 ·exact ⟨ha, rfl⟩
 ·exact write_calm F _ ha ⟨rfl, rfl⟩
theorem append_calm (F : FsS) (n : ByteArray) (b : List UInt8) (ha : F.armed = 0) : (F.append n b).1.armed = 0 ∧ (F.append n b).1.down = F.down := by
 refine on_calm F n _ ha fun x => ?_
 try dsimp only
 split
 ·exact ⟨ha, rfl⟩
 ·exact write_calm F _ ha ⟨rfl, rfl⟩
theorem any_spoilt {s : StS} {N : Nat} (h : On F s size N) (hx : F.find n = some x) (ha : F.armed = 0) (k : Int) (b : List UInt8) :
 let G := ((F.truncate n k).1.append n b).1
 (∃ first ds y, Segs G (nmOf s.dir sLog) first (ds ++ [y]) ∧ first + ds.length ≤ 1000) ∧ G.down = false ∧ G.armed = 0 ∧ ∀ m, m ≠ n → G.find m = F.find m := by
 obtain ⟨f, q0, m0, segs, rc, h1, h2, h3, h4, h5⟩ := h.ex
 have hr := h2.sg.rise
 obtain ⟨ds1, l1, g1⟩ := h2.sg.spoil hx (trunc_files F n k)
 have hx1 : ∃ x1, (F.truncate n k).1.find n = some x1 := by
  rcases trunc_files F n k with e | ⟨y, e⟩
  ·exact ⟨x, by rw [find_same e]; exact hx⟩
  ·exact ⟨y, by rw [find_put hr e, if_pos rfl]⟩
 obtain ⟨x1, hx1⟩ := hx1
 obtain ⟨ds2, l2, g2⟩ := g1.spoil hx1 (append_files _ n b)
 have c1 := trunc_calm F n k ha
 have c2 := append_calm (F.truncate n k).1 n b c1.1
 have hl := h2.last
 have hne : ds2 ≠ [] := fun e => by
  rw [e] at l2
  rw [l1, List.length_map] at l2
  exact h2.ne (List.eq_nil_of_length_eq_zero l2.symm)
 have hsz : s.log.first + ds2.length ≤ 1000 := by
  rw [l2, l1, List.length_map]
  have := h.nl
  have := h.n1
  omega
 refine ⟨⟨s.log.first, ds2.dropLast, ds2.getLast hne, ?_, ?_⟩, ?_, c2.1, fun m hm => ?_⟩
 ·rw [List.dropLast_concat_getLast hne, ← h.ldir]
  exact g2
 ·rw [List.length_dropLast]
  omega
 ·rw [c2.2, c1.2]
  exact h.up
 ·have e2 : ((F.truncate n k).1.append n b).1.find m = (F.truncate n k).1.find m := by
   rcases append_files (F.truncate n k).1 n b with e | ⟨y, e⟩
   ·exact find_same e m
   ·rw [find_put g1.rise e, if_neg hm]
  rw [e2]
  rcases trunc_files F n k with e | ⟨y, e⟩
  ·exact find_same e m
  ·rw [find_put hr e, if_neg hm]
end
end Go.Proofs.YtagdchgkjjpacaaGreat
