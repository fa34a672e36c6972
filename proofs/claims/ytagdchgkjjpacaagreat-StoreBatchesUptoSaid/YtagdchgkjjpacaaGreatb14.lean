/- The walk of the file system's Copy. -/
import Derived.Test.YtagdchgkjjpacaaGreatb13
import Derived.Lib.SlBytesConst
import Derived.Test.YtagdchgkjjpacaaGreatb08
import Derived.Test.YtagdchgkjjpacaaGreatb04
set_option maxRecDepth 100000
open Go.Lib (hid)
namespace Go.Proofs.YtagdchgkjjpacaaGreat
open Go.RowKit Go.Shelf
structure FOp where
 kind : Int
 n : Int
 name : ByteArray
 to : ByteArray
 b : List UInt8
def FsS.new (m : Int) : FsS := ⟨min (max m 0) 67108864, 0, [], 0, 0, false⟩
theorem FsOk.new0 (m : Int) : FsOk (FsS.new m) 0 :=
 { rise := List.Pairwise.nil, room0 := by show 0 ≤ min (max m 0) 67108864; omega, room1 := by show min (max m 0) 67108864 ≤ _; omega, used := rfl, fits := by show 0 ≤ min (max m 0) 67108864; omega, synced := fun x hx => by simp [FsS.new] at hx,
   armed0 := Int.le_refl _, armed1 := by show (0 : Int) ≤ _; omega, steps0 := Int.le_refl _, steps1 := Int.le_refl _, few := Nat.zero_le _, valid := fun x hx => by simp [FsS.new] at hx }
section
variable {w : World}
theorem below_of_post {B : Nat} {a b c : World} {fb : Nat} {F : FsS} {S : Nat → Prop} (h : Below B a b) (hk : FsPost b fb F S c) (hs : ∀ i, S i → B ≤ i) (hB : B ≤ b.heap.size) : Below B a c := below_keeps h hk.2 hs hB
end
section
variable {F G : FsS} {k : Nat} {n : ByteArray} {x : FileS}
theorem findL_congr {l l' : List (ByteArray × FileS)} (hr : Rise slt l) (hr' : Rise slt l') (h : ∀ y, (n, y) ∈ l ↔ (n, y) ∈ l') : findL slt l n = findL slt l' n := by
 rcases find_split slt_ord l hr n with ⟨h1, h2⟩ | ⟨a, v, b, e, h1⟩
 ·rcases find_split slt_ord l' hr' n with ⟨h3, _⟩ | ⟨a', v', b', e', h3⟩
  ·rw [h1, h3]
  ·exact absurd rfl (h2 _ ((h v').2 (by rw [e']; simp)))
 ·rcases find_split slt_ord l' hr' n with ⟨_, h4⟩ | ⟨a', v', b', e', h3⟩
  ·exact absurd rfl (h4 _ ((h v).1 (by rw [e]; simp)))
  ·have hm : (n, v) ∈ l' := (h v).1 (by rw [e]; simp)
   rw [h1, h3]
   congr 1
   obtain ⟨c, d, e2⟩ := List.append_of_mem hm
   have : findL slt l' n = some v := by rw [e2] at hr' ⊢; exact findL_eq slt_ord hr'
   rw [h3] at this
   exact (Option.some.inj this).symm
theorem mem_putL {l : List (ByteArray × FileS)} {m : ByteArray} {y z : FileS} (hne : n ≠ m) : (n, z) ∈ putL slt l m y ↔ (n, z) ∈ l := by
 unfold putL
 have hb : (slt n m || slt m n) = true := by
  cases h1 : slt n m with
  | true => rfl
  | false =>
    cases h2 : slt m n with
    | true => rfl
    | false => exact absurd (slt_ord.eq _ _ h1 h2) hne
 simp only [List.mem_append, List.mem_cons, List.mem_filter, Prod.mk.injEq]
 constructor
 ·rintro (⟨h, _⟩ | ⟨h, _⟩ | ⟨h, _⟩)
  ·exact h
  ·exact absurd h hne
  ·exact h
 ·intro h
  rcases Bool.or_eq_true_iff.1 hb with hb | hb
  ·exact .inl ⟨h, hb⟩
  ·exact .inr (.inr ⟨h, hb⟩)
theorem mem_dropL {l : List (ByteArray × FileS)} {m : ByteArray} {z : FileS} : (n, z) ∈ dropL slt l m ↔ (n, z) ∈ l ∧ n ≠ m := by
 unfold dropL
 simp only [List.mem_filter]
 constructor
 ·rintro ⟨h, hb⟩
  refine ⟨h, ?_⟩
  rintro rfl
  simp [slt_ord.irr] at hb
 ·rintro ⟨h, hne⟩
  refine ⟨h, ?_⟩
  cases h1 : slt n m with
  | true => rfl
  | false =>
    cases h2 : slt m n with
    | true => rfl
    | false => exact absurd (slt_ord.eq _ _ h1 h2) hne
end
section
variable {w : World} {fb gb : Nat} {F G : FsS} {S T : Nat → Prop}
theorem s_read (h : FsIs w fb F S) {k : Nat} (ho : FsOk F k) {n : ByteArray} {x : FileS} (hx : F.find n = some x) :
 Calls Tryz.prog 30 #[.pointer (some ⟨fb, 0, none⟩), .string n] w fun e w' => ∃ a cap, e = .returned (.tuple #[.slice a x.data.length cap, .int .i64 0]) ∧ FreshAt w w' (.slice a x.data.length cap) x.data := by
 obtain ⟨mb, rs, h⟩ := h
 refine (f_read h n (fun y hy => by have := (ho.len hy).1; omega)).mono ?_
 intro e w' hr
 rw [hx] at hr
 obtain ⟨v, rfl, hf⟩ := hr
 obtain ⟨a, cap, e⟩ := hf.sl.shape
 subst e
 exact ⟨a, cap, rfl, hf⟩
theorem s_read_none (h : FsIs w fb F S) {n : ByteArray} (hx : F.find n = none) :
 Calls Tryz.prog 30 #[.pointer (some ⟨fb, 0, none⟩), .string n] w fun e w' => e = .returned (.tuple #[.slice none 0 0, .int .i64 2]) ∧ w = w' := by
 obtain ⟨mb, rs, h⟩ := h
 refine (f_read h n (fun y hy => by rw [hx] at hy; cases hy)).mono ?_
 intro e w' hr
 rw [hx] at hr
 exact ⟨hr.1, hr.2.symm⟩
theorem s_names (h : FsIs w fb F S) {k : Nat} (ho : FsOk F k) (front : ByteArray) : Calls Tryz.prog 27 #[.pointer (some ⟨fb, 0, none⟩), .string front] w fun e w' => ∃ a cap, e = .returned (.slice a (namesL front F.files).length cap) ∧ TextsAt w w' (.slice a (namesL front F.files).length cap) (namesL front F.files) := by
 obtain ⟨mb, rs, h⟩ := h
 have hl : rs.length ≤ 1000000 := by
  have := ho.few
  rw [h.files, List.length_map] at this
  omega
 refine (f_names h hl front).mono ?_
 rintro e w' ⟨v, rfl, ht⟩
 obtain ⟨a, cap, e⟩ := ht.sl.shape
 subst e
 exact ⟨a, cap, rfl, ht⟩
theorem text_cell {v : Value} {L : List ByteArray} {a : Option Addr} {len cap : Nat} (h : RdAt textKind w v L) (hv : v = .slice a len cap) {j : Nat} {n : ByteArray} (hn : L[j]? = some n) : ∃ g off, a = some ⟨g, off, none⟩ ∧ w.cell? ⟨g, off + j, none⟩ = some (.string n) := by
 obtain ⟨a', cap', e, hr⟩ := h
 rw [hv] at e
 injection e with e1 e2 e3
 subst e1
 obtain ⟨g, off, ha, hc⟩ := hr j n hn
 have := hc 0 (by decide)
 exact ⟨g, off, ha, by simpa [textKind] using this⟩
end
section
variable {w : World}
theorem run_text {a : Option Addr} {cap : Nat} {ys : List UInt8} {W : World} (h : RdAt byteKind W (.slice a ys.length cap) ys) : (convert 23 9 (.slice a ys.length cap)).run Tryz.prog W = .ok (.string ⟨ys.toArray⟩) W := by
 obtain ⟨a', cap', e, hnil, hc⟩ := h.cells
 simp only [Value.slice.injEq, true_and] at e
 obtain ⟨rfl, rfl⟩ := e
 cases a with
 | none =>
   obtain rfl := hnil rfl
   rw [run_convert_bytes_string W 23 9 5 none _ cap Tryz.underlying23 Tryz.underlying5 Tryz.underlying9]
   simp [Conv.bytesToString]
   rfl
 | some b =>
   refine run_convert_bytes_back W 23 9 5 b cap ys Tryz.underlying23 Tryz.underlying5 Tryz.underlying9 ?_
   intro j hj
   refine hc b rfl j _ ?_
   have h1 := flat_at byteKind.len ys j 0 ys[j] (List.getElem?_eq_getElem hj) (by decide)
   have e : byteKind.size = 1 := rfl
   rw [e, Nat.mul_one, Nat.add_zero] at h1
   rw [h1]; rfl
end
section
variable {F G : FsS} {k : Nat} {n : ByteArray} {x y : FileS} {l : List (ByteArray × FileS)}
theorem findL_putL (hr : Rise slt l) : findL slt (putL slt l n y) n = some y := by
 obtain ⟨a, b, e, hr⟩ : ∃ a b, putL slt l n y = a ++ (n, y) :: b ∧ Rise slt (a ++ (n, y) :: b) := ⟨_, _, rfl, rise_putL slt_ord hr n y⟩
 rw [e]
 exact findL_eq slt_ord hr
theorem findL_putL_ne (hr : Rise slt l) {m : ByteArray} (hne : n ≠ m) : findL slt (putL slt l m y) n = findL slt l n := findL_congr (rise_putL slt_ord hr m y) hr fun _ => mem_putL hne
theorem findL_dropL_ne (hr : Rise slt l) {m : ByteArray} (hne : n ≠ m) : findL slt (dropL slt l m) n = findL slt l n := findL_congr (rise_dropL hr m) hr fun _ => ⟨fun h => (mem_dropL.1 h).1, fun h => mem_dropL.2 ⟨h, hne⟩⟩
end
structure Hd (w0 w : World) (fb : Nat) (F : FsS) (k : Nat) (S : Nat → Prop) : Prop where
 fs : FsIs w fb F S
 low : ∀ i, S i → w0.heap.size ≤ i
 below : Below w0.heap.size w0 w
 ok : FsOk F k
section
variable {w0 w w' : World} {fb k : Nat} {F G : FsS} {S : Nat → Prop}
theorem Hd.read (h : Hd w0 w fb F k S) (hb : Below w.heap.size w w') : Hd w0 w' fb F k S := ⟨h.fs.below hb, h.low, h.below.trans (hb.mono h.below.size), h.ok⟩
theorem Hd.post (h : Hd w0 w fb F k S) (hp : FsPost w fb G S w') {k' : Nat} (ho : FsOk G k') : Hd w0 w' fb G k' (New w w' S) :=
 ⟨hp.1, fun i e => by rcases e with e | e; exact h.low i e; exact Nat.le_trans h.below.size e.1, below_of_post h.below hp h.low h.below.size, ho⟩
theorem d_crash_nil (h : Hd w0 w fb F k S) : Calls Tryz.prog 35 #[.pointer (some ⟨fb, 0, none⟩), .nilFunc] w fun e w' => e = .returned (.tuple #[]) ∧ Hd w0 w' fb (F.crash fun _ _ => 0) k (New w w' S) ∧ Keeps S w w' := by
 obtain ⟨mb, rs, h1⟩ := h.fs
 exact (f_crash_nil h1 h.ok).mono fun _ _ ⟨he, hp⟩ => ⟨he, h.post hp (h.ok.crash _), hp.2⟩
theorem d_down (h : Hd w0 w fb F k S) : Calls Tryz.prog 37 #[.pointer (some ⟨fb, 0, none⟩)] w fun e w' => e = .returned (.bool F.down) ∧ w = w' := by
 obtain ⟨mb, rs, h1⟩ := h.fs
 exact f_down h1
theorem d_size (h : Hd w0 w fb F k S) (n : ByteArray) : Calls Tryz.prog 28 #[.pointer (some ⟨fb, 0, none⟩), .string n] w fun e w' => e = .returned (sizeRes (F.find n)) ∧ w = w' := by
 obtain ⟨mb, rs, h1⟩ := h.fs
 exact f_size h1 n
theorem d_rename (h : Hd w0 w fb F k S) (hk : k < 1000000) (n m : ByteArray) : Calls Tryz.prog 86 #[.pointer (some ⟨fb, 0, none⟩), .string n, .string m] w fun e w' => e = .returned (.int .i64 (F.rename n m).2) ∧ Hd w0 w' fb (F.rename n m).1 (k + 1) (New w w' S) ∧ Keeps S w w' := by
 obtain ⟨mb, rs, h1⟩ := h.fs
 exact (f_rename h1 h.ok hk n m).mono fun _ _ ⟨he, hp⟩ => ⟨he, h.post hp (h.ok.rename n m), hp.2⟩
theorem d_remove (h : Hd w0 w fb F k S) (hk : k < 1000000) (n : ByteArray) : Calls Tryz.prog 112 #[.pointer (some ⟨fb, 0, none⟩), .string n] w fun e w' => e = .returned (.int .i64 (F.remove n).2) ∧ Hd w0 w' fb (F.remove n).1 (k + 1) (New w w' S) ∧ Keeps S w w' := by
 obtain ⟨mb, rs, h1⟩ := h.fs
 exact (f_remove h1 h.ok hk n).mono fun _ _ ⟨he, hp⟩ => ⟨he, h.post hp (h.ok.remove n), hp.2⟩
theorem d_create (h : Hd w0 w fb F k S) (hk : k < 1000000) (n : ByteArray) : Calls Tryz.prog 22 #[.pointer (some ⟨fb, 0, none⟩), .string n] w fun e w' => e = .returned (.int .i64 (F.create n).2) ∧ Hd w0 w' fb (F.create n).1 (k + 1) (New w w' S) ∧ Keeps S w w' := by
 obtain ⟨mb, rs, h1⟩ := h.fs
 exact (f_create h1 h.ok hk n).mono fun _ _ ⟨he, hp⟩ => ⟨he, h.post hp (h.ok.create n), hp.2⟩
theorem d_sync (h : Hd w0 w fb F k S) (hk : k < 1000000) (n : ByteArray) : Calls Tryz.prog 115 #[.pointer (some ⟨fb, 0, none⟩), .string n] w fun e w' => e = .returned (.int .i64 (F.sync n).2) ∧ Hd w0 w' fb (F.sync n).1 (k + 1) (New w w' S) ∧ Keeps S w w' := by
 obtain ⟨mb, rs, h1⟩ := h.fs
 exact (f_sync h1 h.ok hk n).mono fun _ _ ⟨he, hp⟩ => ⟨he, h.post hp (h.ok.sync n), hp.2⟩
theorem d_read (h : Hd w0 w fb F k S) {n : ByteArray} {x : FileS} (hx : F.find n = some x) :
 Calls Tryz.prog 30 #[.pointer (some ⟨fb, 0, none⟩), .string n] w fun e w' => ∃ a cap, e = .returned (.tuple #[.slice a x.data.length cap, .int .i64 0]) ∧ FreshAt w w' (.slice a x.data.length cap) x.data ∧ Hd w0 w' fb F k S :=
 (s_read h.fs h.ok hx).mono fun _ _ ⟨a, cap, he, hf⟩ => ⟨a, cap, he, hf, h.read hf.below⟩
theorem d_read_none (h : Hd w0 w fb F k S) {n : ByteArray} (hx : F.find n = none) :
 Calls Tryz.prog 30 #[.pointer (some ⟨fb, 0, none⟩), .string n] w fun e w' => e = .returned (.tuple #[.slice none 0 0, .int .i64 2]) ∧ w = w' := s_read_none h.fs hx
theorem SlAt.room {a : Option Addr} {cap : Nat} {ys : List UInt8} (h : SlAt byteKind 5 w (.slice a ys.length cap) ys) : ys.length ≤ cap ∧ cap ≤ 9223372036854775807 ∧ ((a = none ∧ cap = 0 ∧ ys.length = 0) ∨ ∃ g off, a = some ⟨g, off, none⟩) := by
 rcases h with ⟨e1, e2⟩ | ⟨g, off, cap', cur, e1, hb, hc, hmx, hs, hr⟩
 ·simp only [Value.slice.injEq] at e1
  obtain ⟨rfl, e3, rfl⟩ := e1
  exact ⟨by omega, by omega, .inl ⟨rfl, rfl, e3⟩⟩
 ·simp only [Value.slice.injEq, true_and] at e1
  obtain ⟨rfl, rfl⟩ := e1
  unfold maxLen at hmx
  exact ⟨hc, hmx, .inr ⟨g, off, rfl⟩⟩
theorem RdAt.take {a : Option Addr} {cap len : Nat} {ys : List UInt8} (h : RdAt byteKind w (.slice a len cap) ys) {q : Nat} (hq : q ≤ ys.length) (cap' : Nat) : RdAt byteKind w (.slice a q cap') (ys.take q) := by
 obtain ⟨a', c', e, hr⟩ := h
 simp only [Value.slice.injEq] at e
 obtain ⟨rfl, rfl, rfl⟩ := e
 refine ⟨a, cap', by rw [List.length_take, Nat.min_eq_left hq], fun j x hx => ?_⟩
 rw [List.getElem?_take] at hx
 split at hx
 ·exact hr j x hx
 ·cases hx
end
theorem digit_val (m : Nat) : ((UInt8.ofNat (48 + m % 10)).toNat : Int) = 48 + (m : Int) % 10 := by rw [UInt8.toNat_ofNat']; omega
theorem digit_mod (m : Nat) : (48 + (m : Int) % 10) % 256 = 48 + (m : Int) % 10 := by omega
theorem bytes_add (a b : List UInt8) : (⟨a.toArray⟩ : ByteArray) ++ ⟨b.toArray⟩ = ⟨(a ++ b).toArray⟩ := by
 apply ByteArray.ext
 simp
theorem bytes_eta (a : ByteArray) : (⟨a.data.toList.toArray⟩ : ByteArray) = a := by cases a; rfl
structure NameI (w : World) (n k m : Nat) (wr : World) : Prop where
 ex : ∃ zs, digs k m ++ zs = digs 8 n ∧ IsBlk wr w.heap.size (List.replicate k (Value.int .u8 0) ++ zs.map fun x => Value.int .u8 (x.toNat : Int)).toArray 161
 below : Below w.heap.size w wr
theorem NameI.next {w wr : World} {n k m : Nat} (h : NameI w n (k + 1) m wr) : wr.cell? ⟨w.heap.size, k, none⟩ = some (.int .u8 0) ∧ wr.frozen? ⟨w.heap.size, k, none⟩ = false ∧
 NameI w n k (m / 10) (wr.setCell ⟨w.heap.size, k, none⟩ (.int .u8 (48 + (m : Int) % 10))) := by
 obtain ⟨zs, he, hb⟩ := h.ex
 refine ⟨?_, blk_free hb k, ⟨⟨UInt8.ofNat (48 + m % 10) :: zs, by rw [← he]; simp [digs], ?_⟩, h.below.setCell (p := ⟨w.heap.size, k, none⟩) (Nat.le_refl _) _⟩⟩
 ·rw [blk_cell hb k]
  simp [List.getElem?_append_left]
 ·have := blk_set hb k (.int .u8 (48 + (m : Int) % 10))
  have e : (List.replicate (k + 1) (Value.int .u8 0) ++ zs.map fun x => Value.int .u8 (x.toNat : Int)).toArray.setIfInBounds k (.int .u8 (48 + (m : Int) % 10)) = (List.replicate k (Value.int .u8 0) ++ (UInt8.ofNat (48 + m % 10) :: zs).map fun x => Value.int .u8 (x.toNat : Int)).toArray := by
   apply Array.ext'
   simp only [List.setIfInBounds_toArray, List.map_cons, digit_val]
   rw [List.replicate_succ', List.append_assoc, List.set_append_right _ _ (by simp)]
   simp
  rw [← e]; exact this
theorem NameI.text {w wr : World} {n m : Nat} (h : NameI w n 0 m wr) : (convert 23 9 (.slice (some ⟨w.heap.size, 0, none⟩) 8 8)).run Tryz.prog wr = .ok (.string ⟨(digs 8 n).toArray⟩) wr := by
 obtain ⟨zs, he, hb⟩ := h.ex
 obtain rfl : zs = digs 8 n := he
 have hl := digs_len 8 n
 generalize digs 8 n = l at hb hl ⊢
 have h1 : RdAt byteKind wr (.slice (some ⟨w.heap.size, 0, none⟩) l.length 8) l := by
  refine ⟨_, 8, rfl, fun j x hx => ⟨w.heap.size, 0, rfl, fun i hi => ?_⟩⟩
  have hi0 : i = 0 := by have : i < 1 := hi; omega
  subst hi0
  refine (blk_cell hb _).trans ?_
  show _ = some (Value.int .u8 (x.toNat : Int))
  have e : byteKind.size = 1 := rfl
  simp [e, hx]
 have := run_text h1
 rwa [hl] at this
theorem segName_add (dir : ByteArray) (n : Nat) : dir ++ (⟨#[47]⟩ : ByteArray) ++ ⟨(digs 8 n).toArray⟩ = segName dir n := by
 apply ByteArray.ext
 apply Array.ext'
 simp [segName]
set_option maxHeartbeats 1000000 in
theorem w_name (w : World) (dir : ByteArray) (hd : dir.size ≤ 100000) (n : Nat) (hn : n < 100000000) :
 Calls Tryz.prog 64 #[.string dir, .int .i64 (n : Int)] w fun e w' => e = .returned (.string (segName dir n)) ∧ Below w.heap.size w w' := by
 have h0 : Hid (NameI w n 8 n (w.alloc (.cells (List.replicate 8 (Value.int .u8 0)).toArray 161))) := hid ⟨⟨[], by simp, blk_new w _⟩, (Below.refl _ _).alloc (Nat.le_refl _) _⟩
 go_enter Tryz.func64, Tryz.ntmps64
 go_wp2_with (fail)
 go_loopw [1, 6] (fun c i wr => ∃ k m : Nat, k ≤ 8 ∧ i = .int .i64 ((k : Int) - 1) ∧ c = .int .i64 (m : Int) ∧ Hid (m ≤ n) ∧ Hid (NameI w n k m wr)) (fun _ i => fun _ => (intOf i + 1).toNat)
 case atStart => exact ⟨8, n, Nat.le_refl _, rfl, rfl, hid (Nat.le_refl _), h0⟩
 case round =>
  obtain ⟨k, m, hk, rfl, rfl, HM, HI⟩ := hrel
  cases k with
  | succ k =>
    obtain ⟨hc, hf, hi⟩ := HI.out.next
    have HI2 := hid hi
    clear hi
    have hm0 : (0 : Int) ≤ (m : Int) := by omega
    have hm1 : (m : Int) < 100000000 := by have := HM.out; omega
    have hdm := digit_mod m
    have hk0 : (0 : Int) ≤ (k : Int) := by omega
    have hk1 : (k : Int) < 8 := by omega
    go_wp2_with (fail)
    go_roundw
    case rel => exact ⟨k, m / 10, by omega, rfl, rfl, hid (by have := HM.out; omega), HI2⟩
    case measure => simp [intOf]
  | zero =>
    have hcv := HI.out.text
    have hs1 : ((dir ++ (⟨#[47]⟩ : ByteArray)).size : Int) ≤ 8388608 := by rw [ByteArray.size_append]; show ((dir.size + 1 : Nat) : Int) ≤ _; omega
    have hs2 : ((⟨(digs 8 n).toArray⟩ : ByteArray).size : Int) ≤ 8388608 := by show ((digs 8 n).toArray.size : Int) ≤ _; rw [List.size_toArray, digs_len]; omega
    have he := segName_add dir n
    go_wp2_with (fail)
    go_ret
    exact ⟨rfl, HI.out.below⟩
theorem dirOf_add (dir : ByteArray) : dir ++ (⟨#[47]⟩ : ByteArray) = dirOf dir := by
 apply ByteArray.ext
 apply Array.ext'
 simp [dirOf]
theorem str_at (s : ByteArray) {k : Nat} (h : k < s.size) : s.data.toList[k]? = some s[k] := by
 have : k < s.data.toList.length := h
 rw [List.getElem?_eq_getElem this]
 rfl
theorem numDigs_take {l : List UInt8} {k : Nat} {x : UInt8} (h : l[k]? = some x) : numDigs (l.take (k + 1)) = 10 * numDigs (l.take k) + (x.toNat - 48) := by
 rw [List.take_add_one, h]; exact numDigs_snoc _ _
set_option maxHeartbeats 2000000 in
theorem w_number (w : World) (dir name : ByteArray) (hd : dir.size ≤ 100000) :
 Calls Tryz.prog 108 #[.string dir, .string name] w fun e w' => e = .returned (.int .i64 (segNum dir name : Int)) ∧ w = w' := by
 have he := dirOf_add dir
 have hd2 : (dir.size : Int) ≤ 100000 := by omega
 have HC := hid ((Tryz.strings_CutPrefix name (dirOf dir) w).mono fun _ _ (h : _ ∧ _) => And.intro h.1 h.2.symm)
 cases hp : Lib.hasPrefix name.data.toList (dirOf dir).data.toList with
 | false =>
   have HN : Hid (segNum dir name = 0) := hid (by unfold segNum; rw [hp, if_neg (by simp)])
   rw [hp] at HC
   clear hp
   go_enter Tryz.func108, Tryz.ntmps108
   go_wp2_with (fail)
   refine HC.out.mono ?_
   rintro e w' ⟨rfl, rfl⟩
   go_wp2_with (fail)
   go_ret
   rw [HN.out]
   exact ⟨rfl, rfl⟩
 | true =>
   obtain ⟨s, hs⟩ : ∃ s : ByteArray, s = ⟨(Lib.trimPrefix name.data.toList (dirOf dir).data.toList).toArray⟩ := ⟨_, rfl⟩
   have HN : Hid (segNum dir name = numTail s.data.toList) := hid (by
    unfold segNum
    rw [hp, if_pos rfl, hs]
    unfold Lib.trimPrefix
    rw [hp, if_pos rfl, dirOf_list, List.length_append, List.length_singleton])
   rw [hp, ← hs] at HC
   clear hp hs
   by_cases h8 : s.size = 8
   ·have h8' : (s.size : Int) = 8 := by omega
    have hl8 : s.data.toList.length = 8 := h8
    go_enter Tryz.func108, Tryz.ntmps108
    go_wp2_with (fail)
    refine HC.out.mono ?_
    rintro e w' ⟨rfl, rfl⟩
    go_wp2_with (fail)
    go_loopw [7, 23] (fun c i wr => ∃ k : Nat, k ≤ 8 ∧ i = .int .i64 (k : Int) ∧ c = .int .i64 (numDigs (s.data.toList.take k) : Int) ∧ Hid ((s.data.toList.take k).all isDig = true) ∧ wr = w) (fun _ i _ => (8 - intOf i).toNat)
    case atStart => exact ⟨0, Nat.zero_le _, rfl, rfl, hid rfl, rfl⟩
    case round =>
     obtain ⟨k, hk, rfl, rfl, HA, rfl⟩ := hrel
     by_cases hlt : k < 8
     ·have hks : k < s.size := by omega
      have hx := str_at s hks
      have HT := hid (numDigs_take hx)
      have HX := hid hx
      have hk0 : (0 : Int) ≤ (k : Int) := by omega
      have hk1 : (k : Int) < 8 := by omega
      have hk2 : (k : Int) < (s.size : Int) := by omega
      clear hx
      have HBAD : Hid (isDig s[k] = false → segNum dir name = 0) := hid (fun hb => by
       rw [HN.out]
       unfold numTail
       rw [if_neg]
       rintro ⟨_, h2⟩
       have := List.all_eq_true.1 h2 _ (List.mem_of_getElem? HX.out)
       rw [hb] at this; cases this)
      go_wp2_with (fail)
      ·rename_i h1 h2
       go_ret
       rw [HBAD.out (by unfold isDig; simp; omega)]
       exact ⟨rfl, rfl⟩
      ·rename_i h1 h2
       have hlt2 : numDigs (s.data.toList.take k) < 10 ^ 8 := by
        have h3 := numDigs_lt _ HA.out
        have h4 : 10 ^ (s.data.toList.take k).length ≤ 10 ^ 8 := Nat.pow_le_pow_right (by omega) (by rw [List.length_take]; omega)
        omega
       have HD : Hid (isDig s[k] = true) := hid (by unfold isDig; simp; omega)
       have HE : Hid (wrap64 (wrap64 (10 * (numDigs (s.data.toList.take k) : Int)) + ((s[k].toNat : Int) - 48)) = (numDigs (s.data.toList.take (k + 1)) : Int)) := hid (by
        rw [HT.out, IntWalk.wrap64_in (10 * _) (by omega), IntWalk.wrap64_in _ (by omega)]
        omega)
       have HA2 : Hid ((s.data.toList.take (k + 1)).all isDig = true) := hid (by
        rw [List.take_add_one, HX.out, List.all_append, HA.out]
        simp [HD.out])
       clear hlt2
       go_roundw
       case rel => exact ⟨k + 1, by omega, by go_num, by rw [HE.out], HA2, trivial⟩
       case measure => simp [intOf]; omega
      ·rename_i h1
       go_ret
       rw [HBAD.out (by unfold isDig; simp; omega)]
       exact ⟨rfl, rfl⟩
     ·obtain rfl : k = 8 := by omega
      have HE : Hid (segNum dir name = numDigs (s.data.toList.take 8)) := hid (by
       have e : s.data.toList.take 8 = s.data.toList := List.take_of_length_le (by omega)
       have ha := HA.out
       rw [e] at ha ⊢
       rw [HN.out]
       unfold numTail
       rw [if_pos ⟨hl8, ha⟩])
      go_wp2_with (fail)
      go_ret
      rw [HE.out]
      exact ⟨rfl, rfl⟩
   ·have h8' : ((s.size : Int) != 8) = true := by rw [bne_iff_ne]; omega
    have HE : Hid (segNum dir name = 0) := hid (by
     rw [HN.out]
     unfold numTail
     rw [if_neg]
     rintro ⟨h1, _⟩
     exact h8 h1)
    clear h8
    go_enter Tryz.func108, Tryz.ntmps108
    go_wp2_with (fail)
    refine HC.out.mono ?_
    rintro e w' ⟨rfl, rfl⟩
    go_wp2_with (fail)
    go_ret
    rw [HE.out]
    exact ⟨rfl, rfl⟩
section
variable {w w' : World}
set_option maxHeartbeats 1000000 in
theorem g_bytes {a : Option Addr} {cap : Nat} {ys : List UInt8} (hu : RdAt byteKind w (.slice a ys.length cap) ys) (hn : ys.length ≤ 1000000000) :
 Calls Tryz.prog 51 #[.slice a ys.length cap] w fun e w' => ∃ va vc, e = .returned (.slice va ys.length vc) ∧ FreshAt w w' (.slice va ys.length vc) ys := by
 have hk1 : Below w.heap.size w (w.alloc (.cells #[] 5)) := (Below.refl _ _).alloc (Nat.le_refl _) _
 have hs1 : SlAt byteKind 5 (w.alloc (.cells #[] 5)) (.slice (some ⟨w.heap.size, 0, none⟩) 0 0) ([] : List UInt8) := .inr ⟨w.heap.size, 0, 0, #[], rfl, heap_alloc_new w _, Nat.le_refl _, Nat.zero_le _, by simp, fun j hj => by simp at hj⟩
 obtain ⟨v', w2, hrun, hs2, hk2, ho2, _⟩ := append_bytes hs1 (hu.below hk1) (by simp; omega) 23
 have HF : Hid (FreshAt w w2 v' ys) := hid ⟨hs2, fun k hk => by
  rcases ho2 k hk with e | e
  ·simp [Value.ownBlock] at e; omega
  ·exact Nat.le_trans hk1.size e, below_keeps hk1 hk2 (fun i e => by simp [Value.ownBlock] at e; omega) hk1.size⟩
 clear hs1 hk1 hs2 hk2 ho2 hu
 have hn' : (ys.length : Int) ≤ 1000000000 := by omega
 go_enter Tryz.func51, Tryz.ntmps51
 go_wp2_with (at_builtin; refine wpList_append_run rfl (.tmp 3) (.tmp 4) 23 rfl _ _ rfl rfl _ _ hrun ?_)
 go_ret
 obtain ⟨va, vc, hv⟩ := HF.out.sl.shape
 subst hv
 exact ⟨va, vc, rfl, HF.out⟩
structure LentAt (w w' : World) (g off cap : Nat) (ys : List UInt8) : Prop where
 sl : SlAt byteKind 5 w' (.slice (some ⟨g, off, none⟩) (ys.length + 1) cap) (ys ++ [201])
 new : w.heap.size ≤ g
 below : Below w.heap.size w w'
theorem LentAt.room {g off cap : Nat} {ys : List UInt8} (h : SlAt byteKind 5 w' (.slice (some ⟨g, off, none⟩) (ys.length + 1) cap) (ys ++ [201])) : ys.length + 1 ≤ cap ∧ cap ≤ 9223372036854775807 ∧ ∃ cur, IsBlk w' g cur 5 ∧ ∀ j, j < ys.length + 1 → w'.cell? ⟨g, off + j, none⟩ = ((ys ++ [201])[j]?.map fun b => Value.int .u8 (b.toNat : Int)) := by
 have hl : (ys ++ [(201 : UInt8)]).length = ys.length + 1 := by simp
 rw [← hl] at h
 obtain ⟨h1, h2, _⟩ := h.room
 rw [hl] at h1
 refine ⟨h1, h2, ?_⟩
 obtain ⟨cur, hb⟩ := h.own g rfl
 refine ⟨cur, hb, fun j hj => ?_⟩
 obtain ⟨a, c, e, hr⟩ := h.rd
 simp only [Value.slice.injEq, true_and] at e
 obtain ⟨rfl, rfl⟩ := e
 obtain ⟨y, hy⟩ : ∃ y, (ys ++ [(201 : UInt8)])[j]? = some y := ⟨_, List.getElem?_eq_getElem (by rw [hl]; exact hj)⟩
 obtain ⟨g2, off2, ha, hc⟩ := hr j y hy
 simp only [Option.some.injEq, Addr.mk.injEq, and_true] at ha
 obtain ⟨rfl, rfl⟩ := ha
 have := hc 0 (by decide)
 rw [hy]
 simpa [byteKind] using this
set_option maxHeartbeats 2000000 in
theorem r_lent {a : Option Addr} {c : Nat} {ys : List UInt8} (hu : RdAt byteKind w (.slice a ys.length c) ys) (hn : ys.length ≤ 100000000) :
 Calls Tryz.prog 15 #[.slice a ys.length c] w fun e w' => ∃ g off cap, e = .returned (.slice (some ⟨g, off, none⟩) ys.length cap) ∧ LentAt w w' g off cap ys := by
 have HB := hid (g_bytes hu (by omega))
 have hn' : (ys.length : Int) ≤ 100000000 := by omega
 clear hu
 go_enter Tryz.func15, Tryz.ntmps15
 go_wp2_with (fail)
 refine HB.out.mono ?_
 rintro e w1 ⟨va, vc, rfl, hfr⟩
 have hal : Below w1.heap.size w1 (w1.alloc (.cells #[.int .u8 201] 5)) := (Below.refl _ _).alloc (Nat.le_refl _) _
 have hu2 : RdAt byteKind (w1.alloc (.cells #[.int .u8 201] 5)) (.slice (some ⟨w1.heap.size, 0, none⟩) 1 1) [(201 : UInt8)] := by
  refine ⟨_, 1, rfl, fun j y hy => ⟨w1.heap.size, 0, rfl, fun i hi => ?_⟩⟩
  match j, hy with
  | 0, hy =>
    simp only [List.getElem?_cons_zero, Option.some.injEq] at hy
    subst hy
    have hi0 : i = 0 := by have : i < 1 := hi; omega
    subst hi0
    exact blk_cell (cs := #[.int .u8 201]) (heap_alloc_new w1 _) 0
 obtain ⟨v', w2, hrun, hs2, hk2, ho2, hnil⟩ := append_bytes (hfr.sl.below hal) hu2 (by simp only [List.length_cons, List.length_nil]; omega) 23
 obtain ⟨a2, c2, hv⟩ := hs2.shape
 rw [List.length_append, List.length_singleton] at hv
 subst hv
 have hw12 : Below w.heap.size w (w1.alloc (.cells #[.int .u8 201] 5)) := hfr.below.trans (hal.mono hfr.below.size)
 have hB2 : Below w.heap.size w w2 := below_keeps hw12 hk2 (fun i e => hfr.new i e) hw12.size
 have hsome : ∃ g off, a2 = some ⟨g, off, none⟩ := by
  rcases hs2 with ⟨e1, _⟩ | ⟨g, off, cap, cur, e1, _⟩
  ·simp only [Value.slice.injEq] at e1
   omega
  ·simp only [Value.slice.injEq] at e1
   exact ⟨g, off, e1.1⟩
 obtain ⟨g, off, rfl⟩ := hsome
 have HL : Hid (LentAt w w2 g off c2 ys) := hid ⟨hs2, by
  rcases ho2 g rfl with e | e
  ·exact hfr.new g e
  ·have := hfr.below.size; have := hal.size; omega, hB2⟩
 obtain ⟨r1, r2, _⟩ := LentAt.room HL.out.sl
 have q1 : ys.length ≤ c2 := by omega
 have q2 : (ys.length : Int) ≤ (c2 : Int) := by omega
 have q3 : (c2 : Int) ≤ 9223372036854775807 := by omega
 clear hfr hal hu2 hs2 hk2 ho2 hnil hw12 hB2 r1 r2
 go_wp2_with (at_builtin; refine wpList_append_run rfl (.tmp 5) (.tmp 6) 23 rfl _ _ rfl rfl _ _ hrun ?_)
 go_ret
 exact ⟨g, off, c2, rfl, HL.out⟩
set_option maxHeartbeats 2000000 in
theorem r_kept {g off cap : Nat} {a : Option Addr} {c : Nat} {ys : List UInt8} (h : SlAt byteKind 5 w (.slice (some ⟨g, off, none⟩) (ys.length + 1) cap) (ys ++ [201])) (hu : RdAt byteKind w (.slice a ys.length c) ys) (hn : ys.length ≤ 100000000) :
 Calls Tryz.prog 20 #[.slice (some ⟨g, off, none⟩) ys.length cap, .slice a ys.length c] w fun e w' => e = .returned (.bool true) ∧ Below w.heap.size w w' := by
 have hl : (ys ++ [(201 : UInt8)]).length = ys.length + 1 := by simp
 have h1 : RdAt byteKind w (.slice (some ⟨g, off, none⟩) ys.length cap) ys := by
  have h0 := h
  rw [← hl] at h0
  have := h0.rd.take (q := ys.length) (by rw [hl]; omega) cap
  rwa [List.take_left] at this
 obtain ⟨r1, r2, cur, hb, hc⟩ := LentAt.room h
 have hc2 := hc ys.length (by omega)
 rw [List.getElem?_append_right (Nat.le_refl _), Nat.sub_self] at hc2
 have hc3 : w.cell? ⟨g, off + ys.length, none⟩ = some (.int .u8 201) := hc2
 have HSB := hid (r_sameBytes h1 hu (by omega))
 have hn' : (ys.length : Int) ≤ 100000000 := by omega
 have q1 : ys.length + 1 ≤ cap := by omega
 have q2 : (ys.length : Int) + 1 ≤ (cap : Int) := by omega
 have q3 : (cap : Int) ≤ 9223372036854775807 := by omega
 have q4 : (0 : Int) ≤ (ys.length : Int) := by omega
 have q5 : ys.length < ys.length + 1 := by omega
 have HC := hid hc3
 clear h h1 hu hl r1 r2 hb hc hc2 hc3
 go_enter Tryz.func20, Tryz.ntmps20
 go_wp2_with (fail)
 refine HSB.out.mono ?_
 rintro e w1 ⟨rfl, hb⟩
 have hc4 : w1.cell? ⟨g, off + ys.length, none⟩ = some (.int .u8 201) := (hb.cell (p := ⟨g, off + ys.length, none⟩) (World.block_lt_of_cell? w _ HC.out)).trans HC.out
 have HB := hid hb
 clear hb
 go_wp2_with (fail)
 go_ret
 exact ⟨rfl, HB.out⟩
end
theorem sl_cell {w : World} {a : Option Addr} {len cap : Nat} {ss : List SlV} (h : RdAt slKind w (.slice a len cap) ss) {k : Nat} {s : SlV} (hs : ss[k]? = some s) : ∃ g off, a = some ⟨g, off, none⟩ ∧ w.cell? ⟨g, off + k, none⟩ = some (.slice s.a s.len s.cap) := by
 obtain ⟨_, _, e1, hr⟩ := h
 injection e1 with e1 _ e3
 subst e1 e3
 obtain ⟨g, off, rfl, d1⟩ := hr k s hs
 have d1 := d1 0 (by decide)
 exact ⟨g, off, rfl, by simpa [slKind] using d1⟩
end Go.Proofs.YtagdchgkjjpacaaGreat
