/- The walk of the file system's Copy. -/
import Derived.Test.YtagdchgkjjpacaaGreatr10
import Derived.Lib.SlBytesConst
namespace Go.Proofs.YtagdchgkjjpacaaGreat
open Go.RowKit Go.Shelf
structure FOp where
 kind : Int
 n : Int
 name : ByteArray
 to : ByteArray
 b : List UInt8
def FsS.new (m : Int) : FsS:=⟨min (max m 0) 67108864,0,[],0,0,false⟩
theorem FsOk.new0 (m : Int) : FsOk (FsS.new m) 0 :=
 { rise:=List.Pairwise.nil,room0:=by show 0 ≤ min (max m 0) 67108864; omega,room1:=by show min (max m 0) 67108864 ≤ _; omega,used:=rfl,fits:=by show 0 ≤ min (max m 0) 67108864; omega,synced:=fun x hx => by simp [FsS.new] at hx,
   armed0:=Int.le_refl _,armed1:=by show (0 : Int) ≤ _; omega,steps0:=Int.le_refl _,steps1:=Int.le_refl _,few:=Nat.zero_le _,valid:=fun x hx => by simp [FsS.new] at hx }
section
variable {w : World}
theorem below_of_post {B : Nat} {a b c : World} {fb : Nat} {F : FsS} {S : Nat → Prop} (h : Below B a b) (hk : FsPost b fb F S c) (hs : ∀ i,S i → B ≤ i) (hB : B ≤ b.heap.size) : Below B a c:=below_keeps h hk.2 hs hB
end
section
variable {F G : FsS} {k : Nat} {n : ByteArray} {x : FileS}
theorem crash_files (kf : ByteArray → Int → Int) : (F.crash kf).files = F.files.map fun x => (x.1,crashFile kf x.1 x.2):=by
 show crashTo kf F.files F.files.length = _
 unfold crashTo
 rw [List.take_length,List.drop_length,List.append_nil]
theorem crashFile_synced {kf : ByteArray → Int → Int} (hx : x.synced = x.data.length) : crashFile kf n x = x:=by
 unfold crashFile
 rw [if_pos (by omega),hx,List.take_length]
 cases x
 simp only at hx
 rw [hx]
theorem on_some {g : FileS → FsS × Int} (hd : F.down = false) (hx : F.find n = some x) : F.on n g = g x:=by unfold FsS.on; rw [if_neg (by simp [hd]),hx]
theorem findL_congr {l l' : List (ByteArray × FileS)} (hr : Rise slt l) (hr' : Rise slt l') (h : ∀ y,(n,y) ∈ l ↔ (n,y) ∈ l') : findL slt l n = findL slt l' n:=by
 rcases find_split slt_ord l hr n with ⟨h1,h2⟩ | ⟨a,v,b,e,h1⟩
 ·rcases find_split slt_ord l' hr' n with ⟨h3,_⟩ | ⟨a',v',b',e',h3⟩
  ·rw [h1,h3]
  ·exact absurd rfl (h2 _ ((h v').2 (by rw [e']; simp)))
 ·rcases find_split slt_ord l' hr' n with ⟨_,h4⟩ | ⟨a',v',b',e',h3⟩
  ·exact absurd rfl (h4 _ ((h v).1 (by rw [e]; simp)))
  ·have hm : (n,v) ∈ l':=(h v).1 (by rw [e]; simp)
   rw [h1,h3]
   congr 1
   obtain ⟨c,d,e2⟩:=List.append_of_mem hm
   have : findL slt l' n = some v:=by rw [e2] at hr' ⊢; exact findL_eq slt_ord hr'
   rw [h3] at this
   exact (Option.some.inj this).symm
theorem mem_putL {l : List (ByteArray × FileS)} {m : ByteArray} {y z : FileS} (hne : n ≠ m) : (n,z) ∈ putL slt l m y ↔ (n,z) ∈ l:=by
 unfold putL
 have hb : (slt n m || slt m n) = true:=by
  cases h1 : slt n m with
  | true => rfl
  | false =>
    cases h2 : slt m n with
    | true => rfl
    | false => exact absurd (slt_ord.eq _ _ h1 h2) hne
 simp only [List.mem_append,List.mem_cons,List.mem_filter,Prod.mk.injEq]
 constructor
 ·rintro (⟨h,_⟩ | ⟨h,_⟩ | ⟨h,_⟩)
  ·exact h
  ·exact absurd h hne
  ·exact h
 ·intro h
  rcases Bool.or_eq_true_iff.1 hb with hb | hb
  ·exact .inl ⟨h,hb⟩
  ·exact .inr (.inr ⟨h,hb⟩)
theorem mem_dropL {l : List (ByteArray × FileS)} {m : ByteArray} {z : FileS} : (n,z) ∈ dropL slt l m ↔ (n,z) ∈ l ∧ n ≠ m:=by
 unfold dropL
 simp only [List.mem_filter]
 constructor
 ·rintro ⟨h,hb⟩
  refine ⟨h,?_⟩
  rintro rfl
  simp [slt_ord.irr] at hb
 ·rintro ⟨h,hne⟩
  refine ⟨h,?_⟩
  cases h1 : slt n m with
  | true => rfl
  | false =>
    cases h2 : slt m n with
    | true => rfl
    | false => exact absurd (slt_ord.eq _ _ h1 h2) hne
end
section
variable {w : World} {fb gb : Nat} {F G : FsS} {S T : Nat → Prop}
theorem s_read (h : FsIs w fb F S) {k : Nat} (ho : FsOk F k) {n : ByteArray} {x : FileS} (hx : F.find n = some x) :
 Calls Tryz.prog 30 #[.pointer (some ⟨fb,0,none⟩),.string n] w fun e w' => ∃ a cap,e = .returned (.tuple #[.slice a x.data.length cap,.int .i64 0]) ∧ FreshAt w w' (.slice a x.data.length cap) x.data:=by
 obtain ⟨mb,rs,h⟩:=h
 refine (f_read h n (fun y hy => by have:=(ho.len hy).1; omega)).mono ?_
 intro e w' hr
 rw [hx] at hr
 obtain ⟨v,rfl,hf⟩:=hr
 obtain ⟨a,cap,e⟩:=hf.sl.shape
 subst e
 exact ⟨a,cap,rfl,hf⟩
theorem s_read_none (h : FsIs w fb F S) {n : ByteArray} (hx : F.find n = none) :
 Calls Tryz.prog 30 #[.pointer (some ⟨fb,0,none⟩),.string n] w fun e w' => e = .returned (.tuple #[.slice none 0 0,.int .i64 2]) ∧ w = w':=by
 obtain ⟨mb,rs,h⟩:=h
 refine (f_read h n (fun y hy => by rw [hx] at hy; cases hy)).mono ?_
 intro e w' hr
 rw [hx] at hr
 exact ⟨hr.1,hr.2.symm⟩
theorem s_names (h : FsIs w fb F S) {k : Nat} (ho : FsOk F k) (front : ByteArray) : Calls Tryz.prog 27 #[.pointer (some ⟨fb,0,none⟩),.string front] w fun e w' => ∃ a cap,e = .returned (.slice a (namesL front F.files).length cap) ∧ TextsAt w w' (.slice a (namesL front F.files).length cap) (namesL front F.files):=by
 obtain ⟨mb,rs,h⟩:=h
 have hl : rs.length ≤ 1000000:=by
  have:=ho.few
  rw [h.files,List.length_map] at this
  omega
 refine (f_names h hl front).mono ?_
 rintro e w' ⟨v,rfl,ht⟩
 obtain ⟨a,cap,e⟩:=ht.sl.shape
 subst e
 exact ⟨a,cap,rfl,ht⟩
theorem text_cell {v : Value} {L : List ByteArray} {a : Option Addr} {len cap : Nat} (h : RdAt textKind w v L) (hv : v = .slice a len cap) {j : Nat} {n : ByteArray} (hn : L[j]? = some n) : ∃ g off,a = some ⟨g,off,none⟩ ∧ w.cell? ⟨g,off + j,none⟩ = some (.string n):=by
 obtain ⟨a',cap',e,hr⟩:=h
 rw [hv] at e
 injection e with e1 e2 e3
 subst e1
 obtain ⟨g,off,ha,hc⟩:=hr j n hn
 have:=hc 0 (by decide)
 exact ⟨g,off,ha,by simpa [textKind] using this⟩
end
section
variable {w : World}
theorem run_text {a : Option Addr} {cap : Nat} {ys : List UInt8} {W : World} (h : RdAt byteKind W (.slice a ys.length cap) ys) : (convert 23 9 (.slice a ys.length cap)).run Tryz.prog W = .ok (.string ⟨ys.toArray⟩) W:=by
 obtain ⟨a',cap',e,hnil,hc⟩:=h.cells
 simp only [Value.slice.injEq,true_and] at e
 obtain ⟨rfl,rfl⟩:=e
 cases a with
 | none =>
   obtain rfl:=hnil rfl
   rw [run_convert_bytes_string W 23 9 5 none _ cap Tryz.underlying23 Tryz.underlying5 Tryz.underlying9]
   simp [Conv.bytesToString]
   rfl
 | some b =>
   refine run_convert_bytes_back W 23 9 5 b cap ys Tryz.underlying23 Tryz.underlying5 Tryz.underlying9 ?_
   intro j hj
   refine hc b rfl j _ ?_
   have h1:=flat_at byteKind.len ys j 0 ys[j] (List.getElem?_eq_getElem hj) (by decide)
   have e : byteKind.size = 1:=rfl
   rw [e,Nat.mul_one,Nat.add_zero] at h1
   rw [h1]; rfl
end
section
variable {F G : FsS} {k : Nat} {n : ByteArray} {x y : FileS} {l : List (ByteArray × FileS)}
theorem findL_of_mem (hr : Rise slt l) (h : (n,y) ∈ l) : findL slt l n = some y:=by
 obtain ⟨a,b,e⟩:=List.append_of_mem h
 rw [e] at hr ⊢
 exact findL_eq slt_ord hr
theorem findL_putL (hr : Rise slt l) : findL slt (putL slt l n y) n = some y:=by
 obtain ⟨a,b,e,hr⟩ : ∃ a b,putL slt l n y = a ++ (n,y) :: b ∧ Rise slt (a ++ (n,y) :: b):=⟨_,_,rfl,rise_putL slt_ord hr n y⟩
 rw [e]
 exact findL_eq slt_ord hr
theorem findL_putL_ne (hr : Rise slt l) {m : ByteArray} (hne : n ≠ m) : findL slt (putL slt l m y) n = findL slt l n:=findL_congr (rise_putL slt_ord hr m y) hr fun _ => mem_putL hne
theorem findL_dropL_ne (hr : Rise slt l) {m : ByteArray} (hne : n ≠ m) : findL slt (dropL slt l m) n = findL slt l n:=findL_congr (rise_dropL hr m) hr fun _ => ⟨fun h => (mem_dropL.1 h).1,fun h => mem_dropL.2 ⟨h,hne⟩⟩
theorem findL_dropL (hr : Rise slt l) : findL slt (dropL slt l n) n = none:=by
 rcases find_split slt_ord (dropL slt l n) (rise_dropL hr n) n with ⟨h1,_⟩ | ⟨a,v,b,e,_⟩
 ·exact h1
 ·have : (n,v) ∈ dropL slt l n:=by rw [e]; simp
  exact absurd rfl (mem_dropL.1 this).2
end
structure Hd (w0 w : World) (fb : Nat) (F : FsS) (k : Nat) (S : Nat → Prop) : Prop where
 fs : FsIs w fb F S
 low : ∀ i,S i → w0.heap.size ≤ i
 below : Below w0.heap.size w0 w
 ok : FsOk F k
section
variable {w0 w w' : World} {fb k : Nat} {F G : FsS} {S : Nat → Prop}
theorem Hd.read (h : Hd w0 w fb F k S) (hb : Below w.heap.size w w') : Hd w0 w' fb F k S:=⟨h.fs.below hb,h.low,h.below.trans (hb.mono h.below.size),h.ok⟩
theorem Hd.post (h : Hd w0 w fb F k S) (hp : FsPost w fb G S w') {k' : Nat} (ho : FsOk G k') : Hd w0 w' fb G k' (New w w' S) :=
 ⟨hp.1,fun i e => by rcases e with e | e; exact h.low i e; exact Nat.le_trans h.below.size e.1,below_of_post h.below hp h.low h.below.size,ho⟩
theorem d_crash_nil (h : Hd w0 w fb F k S) : Calls Tryz.prog 35 #[.pointer (some ⟨fb,0,none⟩),.nilFunc] w fun e w' => e = .returned (.tuple #[]) ∧ Hd w0 w' fb (F.crash fun _ _ => 0) k (New w w' S) ∧ Keeps S w w':=by
 obtain ⟨mb,rs,h1⟩:=h.fs
 exact (f_crash_nil h1 h.ok).mono fun _ _ ⟨he,hp⟩ => ⟨he,h.post hp (h.ok.crash _),hp.2⟩
theorem d_down (h : Hd w0 w fb F k S) : Calls Tryz.prog 37 #[.pointer (some ⟨fb,0,none⟩)] w fun e w' => e = .returned (.bool F.down) ∧ w = w':=by
 obtain ⟨mb,rs,h1⟩:=h.fs
 exact f_down h1
theorem d_size (h : Hd w0 w fb F k S) (n : ByteArray) : Calls Tryz.prog 28 #[.pointer (some ⟨fb,0,none⟩),.string n] w fun e w' => e = .returned (sizeRes (F.find n)) ∧ w = w':=by
 obtain ⟨mb,rs,h1⟩:=h.fs
 exact f_size h1 n
theorem d_rename (h : Hd w0 w fb F k S) (hk : k < 1000000) (n m : ByteArray) : Calls Tryz.prog 86 #[.pointer (some ⟨fb,0,none⟩),.string n,.string m] w fun e w' => e = .returned (.int .i64 (F.rename n m).2) ∧ Hd w0 w' fb (F.rename n m).1 (k + 1) (New w w' S) ∧ Keeps S w w':=by
 obtain ⟨mb,rs,h1⟩:=h.fs
 exact (f_rename h1 h.ok hk n m).mono fun _ _ ⟨he,hp⟩ => ⟨he,h.post hp (h.ok.rename n m),hp.2⟩
theorem d_remove (h : Hd w0 w fb F k S) (hk : k < 1000000) (n : ByteArray) : Calls Tryz.prog 112 #[.pointer (some ⟨fb,0,none⟩),.string n] w fun e w' => e = .returned (.int .i64 (F.remove n).2) ∧ Hd w0 w' fb (F.remove n).1 (k + 1) (New w w' S) ∧ Keeps S w w':=by
 obtain ⟨mb,rs,h1⟩:=h.fs
 exact (f_remove h1 h.ok hk n).mono fun _ _ ⟨he,hp⟩ => ⟨he,h.post hp (h.ok.remove n),hp.2⟩
theorem d_create (h : Hd w0 w fb F k S) (hk : k < 1000000) (n : ByteArray) : Calls Tryz.prog 22 #[.pointer (some ⟨fb,0,none⟩),.string n] w fun e w' => e = .returned (.int .i64 (F.create n).2) ∧ Hd w0 w' fb (F.create n).1 (k + 1) (New w w' S) ∧ Keeps S w w':=by
 obtain ⟨mb,rs,h1⟩:=h.fs
 exact (f_create h1 h.ok hk n).mono fun _ _ ⟨he,hp⟩ => ⟨he,h.post hp (h.ok.create n),hp.2⟩
theorem d_sync (h : Hd w0 w fb F k S) (hk : k < 1000000) (n : ByteArray) : Calls Tryz.prog 115 #[.pointer (some ⟨fb,0,none⟩),.string n] w fun e w' => e = .returned (.int .i64 (F.sync n).2) ∧ Hd w0 w' fb (F.sync n).1 (k + 1) (New w w' S) ∧ Keeps S w w':=by
 obtain ⟨mb,rs,h1⟩:=h.fs
 exact (f_sync h1 h.ok hk n).mono fun _ _ ⟨he,hp⟩ => ⟨he,h.post hp (h.ok.sync n),hp.2⟩
theorem d_read (h : Hd w0 w fb F k S) {n : ByteArray} {x : FileS} (hx : F.find n = some x) :
 Calls Tryz.prog 30 #[.pointer (some ⟨fb,0,none⟩),.string n] w fun e w' => ∃ a cap,e = .returned (.tuple #[.slice a x.data.length cap,.int .i64 0]) ∧ FreshAt w w' (.slice a x.data.length cap) x.data ∧ Hd w0 w' fb F k S :=
 (s_read h.fs h.ok hx).mono fun _ _ ⟨a,cap,he,hf⟩ => ⟨a,cap,he,hf,h.read hf.below⟩
theorem d_read_none (h : Hd w0 w fb F k S) {n : ByteArray} (hx : F.find n = none) :
 Calls Tryz.prog 30 #[.pointer (some ⟨fb,0,none⟩),.string n] w fun e w' => e = .returned (.tuple #[.slice none 0 0,.int .i64 2]) ∧ w = w':=s_read_none h.fs hx
theorem SlAt.room {a : Option Addr} {cap : Nat} {ys : List UInt8} (h : SlAt byteKind 5 w (.slice a ys.length cap) ys) : ys.length ≤ cap ∧ cap ≤ 9223372036854775807 ∧ ((a = none ∧ cap = 0 ∧ ys.length = 0) ∨ ∃ g off,a = some ⟨g,off,none⟩):=by
 rcases h with ⟨e1,e2⟩ | ⟨g,off,cap',cur,e1,hb,hc,hmx,hs,hr⟩
 ·simp only [Value.slice.injEq] at e1
  obtain ⟨rfl,e3,rfl⟩:=e1
  exact ⟨by omega,by omega,.inl ⟨rfl,rfl,e3⟩⟩
 ·simp only [Value.slice.injEq,true_and] at e1
  obtain ⟨rfl,rfl⟩:=e1
  unfold maxLen at hmx
  exact ⟨hc,hmx,.inr ⟨g,off,rfl⟩⟩
end
end Go.Proofs.YtagdchgkjjpacaaGreat
