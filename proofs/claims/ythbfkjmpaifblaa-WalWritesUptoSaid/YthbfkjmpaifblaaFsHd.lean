/- A file system under way in a statement: what its start's memory keeps; the operations at it. -/
import Derived.Test.YthbfkjmpaifblaaFsPl
import Derived.Test.YthbfkjmpaifblaaFsPm
namespace Go.Proofs.Ythbfkjmpaifblaa
open Go.RowKit Go.Shelf

/-- A file system in blocks that are newer than a world. -/
structure Hd (w0 w : World) (fb : Nat) (F : FsS) (k : Nat) (S : Nat → Prop) : Prop where
  fs : FsIs w fb F S
  low : ∀ i, S i → w0.heap.size ≤ i
  below : Below w0.heap.size w0 w
  ok : FsOk F k
section
variable {w0 w w' : World} {fb k : Nat} {F G : FsS} {S : Nat → Prop}
theorem Hd.read (h : Hd w0 w fb F k S) (hb : Below w.heap.size w w') : Hd w0 w' fb F k S := ⟨h.fs.below hb, h.low, h.below.trans (hb.mono h.below.size), h.ok⟩
theorem Hd.post (h : Hd w0 w fb F k S) (hp : FsPost w fb G S w') {k' : Nat} (ho : FsOk G k') : Hd w0 w' fb G k' (New w w' S) :=
  ⟨hp.1, fun i e => by rcases e with e | e; exact h.low i e; exact Nat.le_trans h.below.size e.1, below_of_post h.below hp h.low h.below.size, ho⟩
theorem r_numE (w : World) (n : Int) : Calls Try.prog 27 #[.int .i64 n] w fun e w' => e = .returned (.int .i64 n) ∧ w = w' := (r_num w n).mono fun _ _ ⟨h1, h2⟩ => ⟨h1, h2.symm⟩
theorem d_crash_nil (h : Hd w0 w fb F k S) : Calls Try.prog 41 #[.pointer (some ⟨fb, 0, none⟩), .nilFunc] w fun e w' => e = .returned (.tuple #[]) ∧ Hd w0 w' fb (F.crash fun _ _ => 0) k (New w w' S) ∧ Keeps S w w' := by
  obtain ⟨mb, rs, h1⟩ := h.fs
  exact (f_crash_nil h1 h.ok).mono fun _ _ ⟨he, hp⟩ => ⟨he, h.post hp (h.ok.crash _), hp.2⟩
theorem d_used (h : Hd w0 w fb F k S) : Calls Try.prog 45 #[.pointer (some ⟨fb, 0, none⟩)] w fun e w' => e = .returned (.int .i64 F.used) ∧ w = w' := by
  obtain ⟨mb, rs, h1⟩ := h.fs
  exact f_used h1
theorem d_room (h : Hd w0 w fb F k S) : Calls Try.prog 44 #[.pointer (some ⟨fb, 0, none⟩)] w fun e w' => e = .returned (.int .i64 F.room) ∧ w = w' := by
  obtain ⟨mb, rs, h1⟩ := h.fs
  exact f_room h1
theorem d_steps (h : Hd w0 w fb F k S) : Calls Try.prog 38 #[.pointer (some ⟨fb, 0, none⟩)] w fun e w' => e = .returned (.int .i64 F.steps) ∧ w = w' := by
  obtain ⟨mb, rs, h1⟩ := h.fs
  exact f_steps h1
theorem d_down (h : Hd w0 w fb F k S) : Calls Try.prog 46 #[.pointer (some ⟨fb, 0, none⟩)] w fun e w' => e = .returned (.bool F.down) ∧ w = w' := by
  obtain ⟨mb, rs, h1⟩ := h.fs
  exact f_down h1
theorem d_size (h : Hd w0 w fb F k S) (n : ByteArray) : Calls Try.prog 60 #[.pointer (some ⟨fb, 0, none⟩), .string n] w fun e w' => e = .returned (sizeRes (F.find n)) ∧ w = w' := by
  obtain ⟨mb, rs, h1⟩ := h.fs
  exact f_size h1 n
theorem d_truncate (h : Hd w0 w fb F k S) (hk : k < 1000000) (n : ByteArray) (m : Int) : Calls Try.prog 77 #[.pointer (some ⟨fb, 0, none⟩), .string n, .int .i64 m] w fun e w' => e = .returned (.int .i64 (F.truncate n m).2) ∧ Hd w0 w' fb (F.truncate n m).1 (k + 1) (New w w' S) ∧ Keeps S w w' := by
  obtain ⟨mb, rs, h1⟩ := h.fs
  exact (f_truncate h1 h.ok hk n m).mono fun _ _ ⟨he, hp⟩ => ⟨he, h.post hp (h.ok.truncate n m), hp.2⟩
theorem d_remove (h : Hd w0 w fb F k S) (hk : k < 1000000) (n : ByteArray) : Calls Try.prog 59 #[.pointer (some ⟨fb, 0, none⟩), .string n] w fun e w' => e = .returned (.int .i64 (F.remove n).2) ∧ Hd w0 w' fb (F.remove n).1 (k + 1) (New w w' S) ∧ Keeps S w w' := by
  obtain ⟨mb, rs, h1⟩ := h.fs
  exact (f_remove h1 h.ok hk n).mono fun _ _ ⟨he, hp⟩ => ⟨he, h.post hp (h.ok.remove n), hp.2⟩
theorem d_create (h : Hd w0 w fb F k S) (hk : k < 1000000) (n : ByteArray) : Calls Try.prog 35 #[.pointer (some ⟨fb, 0, none⟩), .string n] w fun e w' => e = .returned (.int .i64 (F.create n).2) ∧ Hd w0 w' fb (F.create n).1 (k + 1) (New w w' S) ∧ Keeps S w w' := by
  obtain ⟨mb, rs, h1⟩ := h.fs
  exact (f_create h1 h.ok hk n).mono fun _ _ ⟨he, hp⟩ => ⟨he, h.post hp (h.ok.create n), hp.2⟩
theorem d_sync (h : Hd w0 w fb F k S) (hk : k < 1000000) (n : ByteArray) : Calls Try.prog 37 #[.pointer (some ⟨fb, 0, none⟩), .string n] w fun e w' => e = .returned (.int .i64 (F.sync n).2) ∧ Hd w0 w' fb (F.sync n).1 (k + 1) (New w w' S) ∧ Keeps S w w' := by
  obtain ⟨mb, rs, h1⟩ := h.fs
  exact (f_sync h1 h.ok hk n).mono fun _ _ ⟨he, hp⟩ => ⟨he, h.post hp (h.ok.sync n), hp.2⟩
/-- Bytes that were there at the start are appended. -/
theorem d_append (h : Hd w0 w fb F k S) (hk : k < 1000000) (n : ByteArray) {u : Value} {ys : List UInt8} (hu : RdAt byteKind w0 u ys) (hy : ys.length ≤ 9223372036854775807) :
    Calls Try.prog 36 #[.pointer (some ⟨fb, 0, none⟩), .string n, u] w fun e w' => e = .returned (.int .i64 (F.append n ys).2) ∧ Hd w0 w' fb (F.append n ys).1 (k + 1) (New w w' S) ∧ Keeps S w w' := by
  obtain ⟨mb, rs, h1⟩ := h.fs
  exact (f_append h1 h.ok hk n (hu.below h.below) hy).mono fun _ _ ⟨he, hp⟩ => ⟨he, h.post hp (h.ok.append n ys), hp.2⟩
/-- A crash that keeps what a variable says. -/
theorem d_crash (h : Hd w0 w fb F k S) (g : Nat) (bx : Nat) (eg : ∀ args w, (callFunc g args).run Try.prog w = .ok (.enter g args) w) (keep : Int) (hb : IsBlk w0 bx #[.int .i64 keep] 3)
    (hcall : ∀ n m W, IsBlk W bx #[.int .i64 keep] 3 → Calls Try.prog g (#[.string n, .int .i64 m] ++ #[.pointer (some ⟨bx, 0, none⟩)]) W fun e W' => e = .returned (.int .i64 keep) ∧ W = W') :
    Calls Try.prog 41 #[.pointer (some ⟨fb, 0, none⟩), .func (.func g) #[] #[.pointer (some ⟨bx, 0, none⟩)]] w fun e w' => e = .returned (.tuple #[]) ∧ Hd w0 w' fb (F.crash fun _ _ => keep) k (New w w' S) ∧ Keeps S w w' := by
  refine (s_crash_const h.fs h.ok g _ eg keep (fun n m W hW => hcall n m W ?_)).mono fun _ _ ⟨he, hp⟩ => ⟨he, h.post hp (h.ok.crash _), hp.2⟩
  have hlt := lt_of_block hb
  exact hW.obj ((h.below.block bx hlt).trans hb) (fun e => by have := h.low _ e; omega)
theorem d_read (h : Hd w0 w fb F k S) {n : ByteArray} {x : FileS} (hx : F.find n = some x) :
    Calls Try.prog 34 #[.pointer (some ⟨fb, 0, none⟩), .string n] w fun e w' => ∃ a cap, e = .returned (.tuple #[.slice a x.data.length cap, .int .i64 0]) ∧ FreshAt w w' (.slice a x.data.length cap) x.data ∧ Hd w0 w' fb F k S :=
  (s_read h.fs h.ok hx).mono fun _ _ ⟨a, cap, he, hf⟩ => ⟨a, cap, he, hf, h.read hf.below⟩
theorem d_read_none (h : Hd w0 w fb F k S) {n : ByteArray} (hx : F.find n = none) :
    Calls Try.prog 34 #[.pointer (some ⟨fb, 0, none⟩), .string n] w fun e w' => e = .returned (.tuple #[.slice none 0 0, .int .i64 2]) ∧ w = w' := s_read_none h.fs hx
/-- Bytes that lie outside of it. -/
structure Held (S : Nat → Prop) (w : World) (v : Value) (ys : List UInt8) : Prop where
  sl : SlAt byteKind 5 w v ys
  out : ∀ g, v.ownBlock = some g → ¬ S g
theorem FreshAt.held {a : World} {v : Value} {ys : List UInt8} (h : FreshAt a w v ys) (hs : ∀ i, S i → i < a.heap.size) : Held S w v ys := ⟨h.sl, fun g hg e => by have := h.new g hg; have := hs g e; omega⟩
theorem Held.read {v : Value} {ys : List UInt8} (h : Held S w v ys) (hb : Below w.heap.size w w') : Held S w' v ys := ⟨h.sl.below hb, h.out⟩
theorem Held.post {v : Value} {ys : List UInt8} (h : Held S w v ys) (hk : Keeps S w w') : Held (New w w' S) w' v ys := by
  refine ⟨h.sl.keeps hk h.out, fun g hg e => ?_⟩
  obtain ⟨cur, hc⟩ := h.sl.own g hg
  have := lt_of_block hc
  rcases e with e | e
  · exact h.out g hg e
  · omega
/-- What is known of a slice's place and room. -/
theorem SlAt.room {a : Option Addr} {cap : Nat} {ys : List UInt8} (h : SlAt byteKind 5 w (.slice a ys.length cap) ys) : ys.length ≤ cap ∧ cap ≤ 9223372036854775807 ∧ ((a = none ∧ cap = 0 ∧ ys.length = 0) ∨ ∃ g off, a = some ⟨g, off, none⟩) := by
  rcases h with ⟨e1, e2⟩ | ⟨g, off, cap', cur, e1, hb, hc, hmx, hs, hr⟩
  · simp only [Value.slice.injEq] at e1
    obtain ⟨rfl, e3, rfl⟩ := e1
    exact ⟨by omega, by omega, .inl ⟨rfl, rfl, e3⟩⟩
  · simp only [Value.slice.injEq, true_and] at e1
    obtain ⟨rfl, rfl⟩ := e1
    unfold maxLen at hmx
    exact ⟨hc, hmx, .inr ⟨g, off, rfl⟩⟩
theorem RdAt.take {a : Option Addr} {cap len : Nat} {ys : List UInt8} (h : RdAt byteKind w (.slice a len cap) ys) {q : Nat} (hq : q ≤ ys.length) (cap' : Nat) : RdAt byteKind w (.slice a q cap') (ys.take q) := by
  obtain ⟨a', c', e, hr⟩ := h
  simp only [Value.slice.injEq] at e
  obtain ⟨rfl, rfl, rfl⟩ := e
  refine ⟨a, cap', by rw [List.length_take, Nat.min_eq_left hq], fun j x hx => ?_⟩
  rw [List.getElem?_take] at hx
  split at hx
  · exact hr j x hx
  · cases hx
end
end Go.Proofs.Ythbfkjmpaifblaa
