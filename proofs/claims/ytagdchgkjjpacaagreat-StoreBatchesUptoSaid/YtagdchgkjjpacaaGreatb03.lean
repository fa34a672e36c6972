/- The file system as plain data; where it lies in memory. -/
import Derived.Test.YtagdchgkjjpacaaGreatb01
import Derived.Test.YtagdchgkjjpacaaGreatb02
namespace Go.Proofs.YtagdchgkjjpacaaGreat
open Go.RowKit
structure FileS where
 data : List UInt8
 synced : Nat
structure FsS where
 room : Int
 used : Int
 files : List (ByteArray × FileS)
 steps : Int
 armed : Int
 down : Bool
namespace FsS
def find (F : FsS) (n : ByteArray) : Option FileS := findL slt F.files n
def set (F : FsS) (n : ByteArray) (x : FileS) : FsS := { F with files := putL slt F.files n x }
def write (F : FsS) (eff : FsS → FsS) : FsS × Int :=
 if 0 < F.armed then
  if F.armed = 1 then ({ F with armed := 0, down := true }, 5)
  else ({ eff { F with armed := F.armed - 1 } with steps := (eff { F with armed := F.armed - 1 }).steps + 1 }, 0)
 else ({ eff F with steps := (eff F).steps + 1 }, 0)
end FsS
structure Pl where
 g : Nat
 v : Value
 fl : FileS
abbrev evP (p : Pl) : Value := .pointer (some ⟨p.g, 0, none⟩)
structure PlAt (w : World) (p : Pl) : Prop where
 blk : IsBlk w p.g #[p.v, .int .i64 (p.fl.synced : Int)] 107
 bytes : SlAt byteKind 5 w p.v p.fl.data
def blocksOf (p : Pl) (k : Nat) : Prop := k = p.g ∨ p.v.ownBlock = some k
abbrev fsCells (F : FsS) (mb : Nat) : Array Value := #[.int .i64 F.room, .int .i64 F.used, .map (some mb), .int .i64 F.steps, .int .i64 F.armed, .bool F.down]
abbrev Apart (rs : List (ByteArray × Pl)) : Prop := rs.Pairwise fun a b => a.2.g ≠ b.2.g ∧ ∀ k, a.2.v.ownBlock = some k → b.2.v.ownBlock ≠ some k
abbrev flOf (rs : List (ByteArray × Pl)) : List (ByteArray × FileS) := rs.map fun x => (x.1, x.2.fl)
structure FsAt (w : World) (fb : Nat) (F : FsS) (S : Nat → Prop) (mb : Nat) (rs : List (ByteArray × Pl)) : Prop where
 blk : IsBlk w fb (fsCells F mb) 102
 map : MapAt strKind evP w mb rs
 files : F.files = flOf rs
 pl : ∀ x ∈ rs, PlAt w x.2
 apart : Apart rs
 sfb : S fb
 smb : S mb
 sp : ∀ x ∈ rs, ∀ k, blocksOf x.2 k → S k
 lt : ∀ k, S k → k < w.heap.size
def FsIs (w : World) (fb : Nat) (F : FsS) (S : Nat → Prop) : Prop := ∃ mb rs, FsAt w fb F S mb rs
def New (w w' : World) (S : Nat → Prop) (k : Nat) : Prop := S k ∨ (w.heap.size ≤ k ∧ k < w'.heap.size)
def FsPost (w : World) (fb : Nat) (F : FsS) (S : Nat → Prop) (w' : World) : Prop := FsIs w' fb F (New w w' S) ∧ Keeps S w w'
theorem blk_ne_type {w : World} {b c : Nat} {cs ds : Array Value} {T U : TypeId} (h : IsBlk w b cs T) (k : IsBlk w c ds U) (hne : T ≠ U) : b ≠ c := by
 rintro rfl
 have : some (Obj.cells cs T (0, 0)) = some (Obj.cells ds U (0, 0)) := h.symm.trans k
 simp only [Option.some.injEq, Obj.cells.injEq] at this
 exact hne this.2.1
section
variable {w w' : World} {fb mb : Nat} {F : FsS} {S T : Nat → Prop} {rs : List (ByteArray × Pl)}
theorem PlAt.keeps {p : Pl} (h : PlAt w p) (hk : Keeps T w w') (hn : ∀ k, blocksOf p k → ¬ T k) : PlAt w' p :=
 ⟨hk.obj h.blk (hn _ (.inl rfl)), h.bytes.keeps hk (fun g hg => hn g (.inr hg))⟩
theorem FsAt.keeps (h : FsAt w fb F S mb rs) (hk : Keeps T w w') (hT : ∀ k, T k → ¬ S k) : FsAt w' fb F S mb rs :=
 ⟨hk.obj h.blk (fun e => hT _ e h.sfb), h.map.keeps hk (fun e => hT _ e h.smb), h.files, fun x hx => (h.pl x hx).keeps hk (fun k hk e => hT k e (h.sp x hx k hk)), h.apart, h.sfb, h.smb, h.sp, fun k hs => Nat.lt_of_lt_of_le (h.lt k hs) hk.size⟩
theorem FsAt.below (h : FsAt w fb F S mb rs) (hk : Below w.heap.size w w') : FsAt w' fb F S mb rs := h.keeps (Keeps.of_below hk) (fun _ e => e.elim)
theorem FsAt.mono (h : FsAt w fb F S mb rs) (hs : ∀ k, S k → T k) (hl : ∀ k, T k → k < w.heap.size) : FsAt w fb F T mb rs :=
 ⟨h.blk, h.map, h.files, h.pl, h.apart, hs _ h.sfb, hs _ h.smb, fun x hx k hk => hs k (h.sp x hx k hk), hl⟩
theorem FsIs.keeps (h : FsIs w fb F S) (hk : Keeps T w w') (hT : ∀ k, T k → ¬ S k) : FsIs w' fb F S := by obtain ⟨mb, rs, h⟩ := h; exact ⟨mb, rs, h.keeps hk hT⟩
theorem FsIs.below (h : FsIs w fb F S) (hk : Below w.heap.size w w') : FsIs w' fb F S := by obtain ⟨mb, rs, h⟩ := h; exact ⟨mb, rs, h.below hk⟩
theorem FsIs.mono (h : FsIs w fb F S) (hs : ∀ k, S k → T k) (hl : ∀ k, T k → k < w.heap.size) : FsIs w fb F T := by obtain ⟨mb, rs, h⟩ := h; exact ⟨mb, rs, h.mono hs hl⟩
theorem FsIs.lt (h : FsIs w fb F S) : ∀ k, S k → k < w.heap.size := by obtain ⟨mb, rs, h⟩ := h; exact h.lt
theorem new_lt (h : ∀ k, S k → k < w.heap.size) (hk : w.heap.size ≤ w'.heap.size) : ∀ k, New w w' S k → k < w'.heap.size := by
 rintro k (h1 | h1)
 ·have := h k h1; omega
 ·exact h1.2
theorem FsIs.post (h : FsIs w fb F S) (hk : Below w.heap.size w w') : FsPost w fb F S w' :=
 ⟨(h.below hk).mono (fun _ h => .inl h) (new_lt h.lt hk.size), (Keeps.of_below hk).mono (fun _ _ e => e.elim)⟩
theorem keeps_new {a b c : World} (h : Keeps S a b) (k : Keeps (New a b S) b c) : Keeps S a c :=
 h.trans k (fun i hi e => by rcases e with e | e; exact e; exact absurd e.1 (by omega))
theorem FsPost.trans {a b c : World} {F G : FsS} (h : FsPost a fb F S b) (k : FsPost b fb G (New a b S) c) : FsPost a fb G S c :=
 ⟨k.1.mono (fun i e => by
  rcases e with (e | e) | e
  ·exact .inl e
  ·exact .inr ⟨e.1, by have := k.2.size; omega⟩
  ·exact .inr ⟨by have := h.2.size; omega, e.2⟩) (by
  rintro i (e | e)
  ·have := h.1.lt i (.inl e); have := k.2.size; omega
  ·exact e.2), keeps_new h.2 k.2⟩
theorem FsPost.trans_keeps {a b c : World} (h : Below a.heap.size a b) (hS : ∀ k, S k → k < a.heap.size) (k : FsPost b fb F S c) : FsPost a fb F S c :=
 ⟨k.1.mono (fun i e => by
  rcases e with e | e
  ·exact .inl e
  ·exact .inr ⟨by have := h.size; omega, e.2⟩) (by
  rintro i (e | e)
  ·have := hS i e; have := h.size; have := k.2.size; omega
  ·exact e.2), (Keeps.of_below h).mono (fun _ _ e => e.elim) |>.trans' k.2⟩
theorem FsAt.setCell (h : FsAt w fb F S mb rs) {F' : FsS} {i : Nat} {u : Value} (hF : F'.files = F.files) (hc : (fsCells F mb).setIfInBounds i u = fsCells F' mb) : FsAt (w.setCell ⟨fb, i, none⟩ u) fb F' S mb rs := by
 have k : Keeps (fun k => k = fb) w (w.setCell ⟨fb, i, none⟩ u) := (Keeps.refl (fun k => k = fb) w).setCell (p := ⟨fb, i, none⟩) (fun _ => rfl) u
 refine ⟨hc ▸ blk_set h.blk i u, h.map.keeps k (fun e => h.map.not_blk h.blk e.symm), hF.trans h.files, fun x hx => (h.pl x hx).keeps k ?_, h.apart, h.sfb, h.smb, h.sp, fun k hs => by simpa using h.lt k hs⟩
 rintro j (rfl | e) rfl
 ·exact blk_ne_type (h.pl x hx).blk h.blk (by decide) rfl
 ·obtain ⟨cur, hb⟩ := (h.pl x hx).bytes.own _ e
  exact blk_ne_type hb h.blk (by decide) rfl
theorem FsAt.find (h : FsAt w fb F S mb rs) (n : ByteArray) : F.find n = (findL slt rs n).map (·.fl) := by
 unfold FsS.find; rw [h.files]
 unfold findL flOf
 rw [List.find?_map, Option.map_map, Option.map_map]
 rfl
theorem putL_map {K V W : Type} {lt : K → K → Bool} (f : V → W) (m : List (K × V)) (k : K) (v : V) : (putL lt m k v).map (fun x => (x.1, f x.2)) = putL lt (m.map fun x => (x.1, f x.2)) k (f v) := by
 unfold putL
 rw [List.map_append, List.map_cons, List.filter_map, List.filter_map]
 rfl
theorem dropL_map {K V W : Type} {lt : K → K → Bool} (f : V → W) (m : List (K × V)) (k : K) : (dropL lt m k).map (fun x => (x.1, f x.2)) = dropL lt (m.map fun x => (x.1, f x.2)) k := by
 unfold dropL
 rw [List.filter_map]
 rfl
theorem MapAt.congr {K V : Type} {kk : KeyKind K} {ev : V → Value} {b : Nat} {m m' : List (K × V)} (h : MapAt kk ev w b m) (e : m.map (fun x => (x.1, ev x.2)) = m'.map (fun x => (x.1, ev x.2))) : MapAt kk ev w b m' := by
 obtain ⟨hr, es, c, hb, hs, hp⟩ := h
 refine ⟨?_, es, c, hb, hs, ?_⟩
 ·unfold Rise at hr ⊢
  have h1 : (m.map (fun x => (x.1, ev x.2))).Pairwise (fun a b => kk.lt a.1 b.1 = true) := by rw [List.pairwise_map]; exact hr
  rw [e, List.pairwise_map] at h1
  exact h1
 ·have e2 : m.map (fun x => (kk.ek x.1, ev x.2)) = (m.map (fun x => (x.1, ev x.2))).map (fun x => (kk.ek x.1, x.2)) := by rw [List.map_map]; rfl
  have e3 : m'.map (fun x => (kk.ek x.1, ev x.2)) = (m'.map (fun x => (x.1, ev x.2))).map (fun x => (kk.ek x.1, x.2)) := by rw [List.map_map]; rfl
  rw [e3, ← e, ← e2]; exact hp
theorem findL_split {K V : Type} {lt : K → K → Bool} (H : KeyOrd lt) {m : List (K × V)} {k : K} {v : V} (h : findL lt m k = some v) : ∃ a b, m = a ++ (k, v) :: b := by
 unfold findL at h
 obtain ⟨x, hx, rfl⟩ := Option.map_eq_some_iff.1 h
 have h1 := List.find?_some hx
 simp only [Bool.and_eq_true, Bool.not_eq_true'] at h1
 obtain ⟨a, b, e⟩ := List.append_of_mem (List.mem_of_find?_eq_some hx)
 have := H.eq _ _ h1.1 h1.2
 subst this
 exact ⟨a, b, e⟩
theorem FsAt.setFile (h : FsAt w fb F S mb rs) {n : ByteArray} {p q : Pl} (hf : findL slt rs n = some p) (hg : q.g = p.g) (hk : Keeps (blocksOf p) w w') (hq : PlAt w' q) (ho : ∀ k, q.v.ownBlock = some k → p.v.ownBlock = some k ∨ w.heap.size ≤ k) :
 FsAt w' fb (F.set n q.fl) (New w w' S) mb (putL slt rs n q) ∧ Keeps S w w' := by
 obtain ⟨a, c, e⟩ := findL_split slt_ord hf
 have hm : (n, p) ∈ rs := by rw [e]; simp
 have hr := h.map.rise
 have hp : putL slt rs n q = a ++ (n, q) :: c := by rw [e]; rw [e] at hr; exact putL_eq slt_ord hr
 have hS : ∀ k, blocksOf p k → S k := h.sp _ hm
 have nfb : ¬ blocksOf p fb := by
  rintro (e1 | e1)
  ·exact blk_ne_type (h.pl _ hm).blk h.blk (by decide) e1.symm
  ·obtain ⟨cur, hb⟩ := (h.pl _ hm).bytes.own _ e1
   exact blk_ne_type hb h.blk (by decide) rfl
 have nmb : ¬ blocksOf p mb := by
  rintro (e1 | e1)
  ·exact h.map.not_blk (h.pl _ hm).blk e1.symm
  ·obtain ⟨cur, hb⟩ := (h.pl _ hm).bytes.own _ e1
   exact h.map.not_blk hb rfl
 have hap := h.apart
 rw [e] at hap
 have hap' := List.pairwise_append.1 hap
 have hap2 := List.pairwise_cons.1 hap'.2.1
 have oth : ∀ x ∈ a ++ c, x ∈ rs ∧ x.2.g ≠ p.g ∧ ∀ k, x.2.v.ownBlock = some k → p.v.ownBlock ≠ some k := by
  intro x hx
  rcases List.mem_append.1 hx with hx | hx
  ·have := hap'.2.2 x hx (n, p) (by simp)
   exact ⟨by rw [e]; simp [hx], this.1, this.2⟩
  ·have := hap2.1 x hx
   exact ⟨by rw [e]; simp [hx], fun e1 => this.1 e1.symm, fun k e1 e2 => this.2 k e2 e1⟩
 have nx : ∀ x ∈ a ++ c, ∀ k, blocksOf x.2 k → ¬ blocksOf p k := by
  intro x hx k hk1 hk2
  obtain ⟨hx1, hx2, hx3⟩ := oth x hx
  rcases hk1 with rfl | hk1
  ·rcases hk2 with hk2 | hk2
   ·exact hx2 hk2
   ·obtain ⟨cur, hb⟩ := (h.pl _ hm).bytes.own _ hk2
    exact blk_ne_type hb (h.pl _ hx1).blk (by decide) rfl
  ·rcases hk2 with rfl | hk2
   ·obtain ⟨cur, hb⟩ := (h.pl _ hx1).bytes.own _ hk1
    exact blk_ne_type hb (h.pl _ hm).blk (by decide) rfl
   ·exact hx3 k hk1 hk2
 have hlt : ∀ x ∈ a ++ c, ∀ k, blocksOf x.2 k → k < w.heap.size := fun x hx k hk1 => h.lt k (h.sp x (oth x hx).1 k hk1)
 refine ⟨⟨hk.obj h.blk nfb, ?_, ?_, ?_, ?_, .inl h.sfb, .inl h.smb, ?_, new_lt h.lt hk.size⟩, hk.mono (fun k _ e => hS k e)⟩
 ·rw [hp]
  refine (h.map.keeps hk nmb).congr ?_
  rw [e]; simp [evP, hg]
 ·show putL slt F.files n q.fl = _
  rw [h.files]; exact (putL_map (fun q : Pl => q.fl) rs n q).symm
 ·intro x hx
  rw [hp] at hx
  have hx' : x ∈ a ++ c ∨ x = (n, q) := by
   rcases List.mem_append.1 hx with hx | hx
   ·exact .inl (by simp [hx])
   rcases List.mem_cons.1 hx with hx | hx
   ·exact .inr hx
   ·exact .inl (by simp [hx])
  rcases hx' with hx' | rfl
  ·exact (h.pl x (oth x hx').1).keeps hk (nx x hx')
  ·exact hq
 ·rw [hp]
  show List.Pairwise _ _
  rw [List.pairwise_append, List.pairwise_cons]
  refine ⟨hap'.1, ⟨?_, hap2.2⟩, ?_⟩
  ·intro x hx
   have h1 := oth x (by simp [hx])
   refine ⟨fun e1 => h1.2.1 (by rw [← e1, hg]), fun k e1 e2 => ?_⟩
   rcases ho k e1 with e3 | e3
   ·exact h1.2.2 k e2 e3
   ·have := hlt x (by simp [hx]) k (.inr e2); omega
  ·intro x hx y hy
   rcases List.mem_cons.1 hy with rfl | hy
   ·have h1 := oth x (by simp [hx])
    refine ⟨fun e1 => h1.2.1 (by rw [e1, hg]), fun k e1 e2 => ?_⟩
    rcases ho k e2 with e3 | e3
    ·exact h1.2.2 k e1 e3
    ·have := hlt x (by simp [hx]) k (.inr e1); omega
   ·exact hap'.2.2 x hx y (by simp [hy])
 ·intro x hx k hk1
  rw [hp] at hx
  have hx' : x ∈ a ++ c ∨ x = (n, q) := by
   rcases List.mem_append.1 hx with hx | hx
   ·exact .inl (by simp [hx])
   rcases List.mem_cons.1 hx with hx | hx
   ·exact .inr hx
   ·exact .inl (by simp [hx])
  rcases hx' with hx' | rfl
  ·exact .inl (h.sp x (oth x hx').1 k hk1)
  ·rcases hk1 with rfl | hk1
   ·exact .inl (hS _ (.inl hg))
   ·rcases ho k hk1 with e3 | e3
    ·exact .inl (hS _ (.inr e3))
    ·obtain ⟨cur, hb⟩ := hq.bytes.own _ hk1
     exact .inr ⟨e3, lt_of_block hb⟩
end
end Go.Proofs.YtagdchgkjjpacaaGreat
