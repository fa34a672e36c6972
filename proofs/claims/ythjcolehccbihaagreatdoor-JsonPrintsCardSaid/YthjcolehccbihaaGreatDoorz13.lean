/- What stands in memory while a JSON reader gathers a list. -/
import Derived.Test.YthjcolehccbihaaGreatDoorz10
import Derived.Test.YthjcolehccbihaaGreatDoorz12
namespace Go.Proofs.YthjcolehccbihaaGreatDoor
open Go.RowKit Go.Shelf
theorem infoJV : (Tryz.prog.info? 25).map (fun i => (i.zero, i.size, i.bytes)) = some (some (.agg #[.int .i64 0, .string ⟨#[]⟩, .slice none 0 0, .slice none 0 0]), 4, 72) := by kernel_rfl
theorem infoStr : (Tryz.prog.info? 9).map (fun i => (i.zero, i.size, i.bytes)) = some (some (.string ⟨#[]⟩), 1, 16) := by kernel_rfl
theorem append_raw {w : World} {v u : Value} {xs ys : List RawV} (hv : SlAt rawKind 25 w v xs) (hu : RdAt rawKind w u ys) (hn : xs.length + ys.length ≤ 1000000) (ty : TypeId) :
    ∃ v' w', (Builtin.append_ #[22, 22] ty #[v, u]).run Tryz.prog w = .ok v' w' ∧ SlAt rawKind 25 w' v' (xs ++ ys) ∧ Keeps (fun k => v.ownBlock = some k) w w' ∧ (∀ k, v'.ownBlock = some k → v.ownBlock = some k ∨ w.heap.size ≤ k) := by
  obtain ⟨i, hi, hz, hs, hb⟩ := info_parts infoJV
  obtain ⟨v', w', h1, h2, h3, h4, _⟩ := run_append_sl (ek := rawKind) (P := Tryz.prog) 22 ty i _ 72 Tryz.underlying22 hi hz hs hb rfl hv hu (by unfold maxLen; omega) (by omega)
  exact ⟨v', w', h1, h2, h3, h4⟩
theorem append_str {w : World} {v u : Value} {xs ys : List ByteArray} (hv : SlAt textKind 9 w v xs) (hu : RdAt textKind w u ys) (hn : xs.length + ys.length ≤ 1000000) (ty : TypeId) :
    ∃ v' w', (Builtin.append_ #[23, 23] ty #[v, u]).run Tryz.prog w = .ok v' w' ∧ SlAt textKind 9 w' v' (xs ++ ys) ∧ Keeps (fun k => v.ownBlock = some k) w w' ∧ (∀ k, v'.ownBlock = some k → v.ownBlock = some k ∨ w.heap.size ≤ k) := by
  obtain ⟨i, hi, hz, hs, hb⟩ := info_parts infoStr
  obtain ⟨v', w', h1, h2, h3, h4, _⟩ := run_append_sl (ek := textKind) (P := Tryz.prog) 23 ty i _ 16 Tryz.underlying23 hi hz hs hb rfl hv hu (by unfold maxLen; omega) (by omega)
  exact ⟨v', w', h1, h2, h3, h4⟩
theorem rd_new {α : Type} {ek : ElKind α} (w : World) (x : α) (cs : Array Value) (hc : cs = (ek.enc x).toArray) (T : TypeId) : RdAt ek (w.alloc (.cells cs T)) (.slice (some ⟨w.heap.size, 0, none⟩) 1 1) [x] := by
  refine ⟨_, _, rfl, fun j y hy => ?_⟩
  obtain ⟨rfl, rfl⟩ : j = 0 ∧ y = x := by
    cases j with
    | zero => simp at hy; exact ⟨rfl, hy.symm⟩
    | succ j => simp at hy
  refine ⟨_, _, rfl, fun i hi => ?_⟩
  rw [show 0 + 0 * ek.size + i = i from by omega, blk_cell (blk_new w _), hc, List.getElem?_toArray]
/-- Where the gathered values may lie. -/
def InA (B : Nat) (lv nv : Value) : Nat → Prop := fun g => B ≤ g ∧ lv.ownBlock ≠ some g ∧ nv.ownBlock ≠ some g
/-- While values (and names) are gathered: the reader behind l', the value that grows at vb (whose cells say lc, nc yet), all of it newer than B. -/
structure ListJ (w wx : World) (rb : Nat) (bv : Value) (bs l' : List UInt8) (B vb : Nat) (kd : Int) (lc nc lv nv : Value) (acc : List JV) (names : List ByteArray) : Prop where
  rdr : Rdr wx rb bv bs l'
  keep : Keeps (Only rb) w wx
  res : JBox wx w.heap.size raw0
  own : IsBlk wx vb #[.int .i64 kd, .string ⟨#[]⟩, lc, nc] 25
  lst : ∃ rs, SlAt rawKind 25 wx lv rs ∧ JsAt wx (InA B lv nv) acc rs
  nms : SlAt textKind 9 wx nv names
  lown : ∀ g, lv.ownBlock = some g → B ≤ g
  nown : ∀ g, nv.ownBlock = some g → B ≤ g
  vlt : w.heap.size < vb ∧ vb < B
  rlt : rb < w.heap.size
  glt : ∀ g, bv.ownBlock = some g → bs ≠ [] → g < w.heap.size
abbrev ListI (w wx : World) (rb : Nat) (bv : Value) (bs l' : List UInt8) (B vb : Nat) (kd : Int) (lv nv : Value) (acc : List JV) (names : List ByteArray) : Prop := ListJ w wx rb bv bs l' B vb kd lv nv lv nv acc names
section
variable {w wx wy : World} {rb : Nat} {bv : Value} {bs l' r : List UInt8} {B vb : Nat} {kd : Int} {lc nc lv nv : Value} {acc : List JV} {names : List ByteArray}
theorem ListJ.size (h : ListJ w wx rb bv bs l' B vb kd lc nc lv nv acc names) : w.heap.size ≤ wx.heap.size := h.keep.size
/-- Memory elsewhere is written. -/
theorem ListJ.step (h : ListJ w wx rb bv bs l' B vb kd lc nc lv nv acc names) (h2 : Rdr wy rb bv bs r) (hk : Keeps (Only rb) wx wy) : ListJ w wy rb bv bs r B vb kd lc nc lv nv acc names := by
  have hr := h.rlt
  have hv := h.vlt
  obtain ⟨rs, h3, h4⟩ := h.lst
  refine ⟨h2, h.keep.trans' hk, jbox_keeps h.res hk (fun e => ?_), hk.obj h.own (fun e => ?_), ⟨rs, h3.keeps hk (fun g hg e => ?_), h4.keeps hk (fun g hg e => ?_)⟩, h.nms.keeps hk (fun g hg e => ?_), h.lown, h.nown, h.vlt, h.rlt, h.glt⟩
  · have e : w.heap.size = rb := e; omega
  · have e : vb = rb := e; omega
  · have e : g = rb := e; have := h.lown g hg; omega
  · have e : g = rb := e; have := hg.1; omega
  · have e : g = rb := e; have := h.nown g hg; omega
theorem ListJ.below (h : ListJ w wx rb bv bs l' B vb kd lc nc lv nv acc names) (hb : Below wx.heap.size wx wy) : ListJ w wy rb bv bs l' B vb kd lc nc lv nv acc names :=
  h.step (h.rdr.below hb) ((Keeps.of_below hb).mono fun _ _ h => h.elim)
theorem ListJ.drew (h : ListJ w wx rb bv bs l' B vb kd lc nc lv nv acc names) (n : Nat) : ListJ w (wx.drewN n) rb bv bs l' B vb kd lc nc lv nv acc names := h.below (below_drewN _ _ _)
theorem ListJ.llen (h : ListJ w wx rb bv bs l' B vb kd lc nc lv nv acc names) : ∃ a cap, lv = .slice a acc.length cap := by
  obtain ⟨rs, h3, h4⟩ := h.lst
  obtain ⟨a, cap, e⟩ := h3.shape
  exact ⟨a, cap, by rw [e, h4.length]⟩
theorem ListJ.cells (h : ListJ w wx rb bv bs l' B vb kd lc nc lv nv acc names) : wx.cell? ⟨vb, 0, none⟩ = some (.int .i64 kd) ∧ wx.cell? ⟨vb, 1, none⟩ = some (.string ⟨#[]⟩) ∧ wx.cell? ⟨vb, 2, none⟩ = some lc ∧ wx.cell? ⟨vb, 3, none⟩ = some nc ∧
    wx.frozen? ⟨vb, 2, none⟩ = false ∧ wx.frozen? ⟨vb, 3, none⟩ = false := ⟨blk_cell h.own 0, blk_cell h.own 1, blk_cell h.own 2, blk_cell h.own 3, blk_free h.own 2, blk_free h.own 3⟩
theorem Rdr.above {wy : World} {S : Nat → Prop} (h : Rdr wx rb bv bs r) (hk : Keeps S wx wy) {B : Nat} (hB : w.heap.size ≤ B) (hr : rb < w.heap.size) (hg : ∀ g, bv.ownBlock = some g → bs ≠ [] → g < w.heap.size) (hS : ∀ k, S k → B ≤ k) : Rdr wy rb bv bs r :=
  h.keeps hk (fun e => by have := hS _ e; omega) (fun g h1 h2 e => by have := hS _ e; have := hg g h1 h2; omega) (fun k e => by have := hS _ e; have := h.big; omega)
/-- The value's own cells are written. -/
theorem ListJ.set (h : ListJ w wx rb bv bs l' B vb kd lc nc lv nv acc names) (i : Nat) (u lc' nc' : Value) (hc : (#[.int .i64 kd, .string ⟨#[]⟩, lc, nc] : Array Value).setIfInBounds i u = #[.int .i64 kd, .string ⟨#[]⟩, lc', nc']) :
    ListJ w (wx.setCell ⟨vb, i, none⟩ u) rb bv bs l' B vb kd lc' nc' lv nv acc names := by
  have hk := keeps_set wx vb i u
  have hv := h.vlt
  obtain ⟨rs, h3, h4⟩ := h.lst
  refine ⟨h.rdr.above (w := w) hk (Nat.le_refl _) h.rlt h.glt (fun k e => by have e : k = vb := e; omega), h.keep.trans hk (fun k hk e => by have e : k = vb := e; omega), jbox_keeps h.res hk (fun e => by have e : w.heap.size = vb := e; omega), by have := blk_set h.own i u; rw [hc] at this; exact this,
    ⟨rs, h3.keeps hk (fun g hg e => ?_), h4.keeps hk (fun g hg e => ?_)⟩, h.nms.keeps hk (fun g hg e => ?_), h.lown, h.nown, h.vlt, h.rlt, h.glt⟩
  · have e : g = vb := e; have := h.lown g hg; omega
  · have e : g = vb := e; have := hg.1; omega
  · have e : g = vb := e; have := h.nown g hg; omega
/-- One more value: the append. -/
theorem ListJ.push (h : ListJ w wx rb bv bs l' B vb kd lc nc lv nv acc names) (hB : B ≤ wx.heap.size) (hn : acc.length + 1 ≤ 1000000) {wy : World} {x : JV} {q : RawV} (hr : Rdr wy rb bv bs r) (hk : Keeps (Only rb) wx wy)
    (hx : JAt wy (fun g => wx.heap.size ≤ g) x q) (cs : Array Value) (hcs : cs = q.cells.toArray) (ty : TypeId) :
    ∃ v' wu, (Builtin.append_ #[22, 22] ty #[lv, .slice (some ⟨wy.heap.size, 0, none⟩) 1 1]).run Tryz.prog (wy.alloc (.cells cs 25)) = .ok v' wu ∧ (∃ a cap, v' = .slice a (acc.length + 1) cap) ∧
      wx.heap.size ≤ wu.heap.size ∧ ListJ w wu rb bv bs r B vb kd lc nc v' nv (acc ++ [x]) names ∧ Keeps (fun k => B ≤ k) (wy.alloc (.cells cs 25)) wu := by
  have hy := h.step hr hk
  have hv := hy.vlt
  have hrl := hy.rlt
  have hlt := hx.lt
  have hsz := hk.size
  obtain ⟨rs, h3, h4⟩ := hy.lst
  have h4' := h4.lt
  have hal : Below wy.heap.size wy (wy.alloc (.cells cs 25)) := (Below.refl _ _).alloc (Nat.le_refl _) _
  have hz := hy.below hal
  have hq := rd_new (ek := rawKind) wy q cs hcs 25
  have hlen : rs.length = acc.length := h4.length
  obtain ⟨v', wu, hrun, hsl, hku, hown⟩ := append_raw (h3.below hal) hq (by rw [hlen]; simp; omega) ty
  have hS1 : ∀ k, lv.ownBlock = some k → B ≤ k := hy.lown
  have hub := hku.obj (w := wy.alloc (.cells cs 25)) hz.own (fun e => by have := hS1 _ e; omega)
  have hsz1 : (wy.alloc (.cells cs 25)).heap.size = wy.heap.size + 1 := by simp
  refine ⟨v', wu, hrun, ?_, ?_, ?_⟩
  · obtain ⟨a, cap, e⟩ := hsl.shape
    exact ⟨a, cap, by rw [e, List.length_append, hlen]; rfl⟩
  · have h1 := hku.size
    omega
  have hvown : ∀ k, v'.ownBlock = some k → B ≤ k := fun k hk => by
    rcases hown k hk with e | e
    · exact hy.lown k e
    · omega
  refine ⟨⟨hz.rdr.above (w := w) hku (by omega) hrl hy.glt hS1, hz.keep.trans hku (fun k hk e => by have := hS1 _ e; omega), jbox_keeps hz.res hku (fun e => by have := hS1 _ e; omega), hub, ⟨rs ++ [q], hsl, ?_⟩, ?_, hvown, hy.nown, hy.vlt, hrl, hy.glt⟩, hku.mono fun k _ e => hS1 k e⟩
  · have old : JsAt wu (fun g => (InA B lv nv g) ∧ g < wy.heap.size) acc rs := (h4'.below hal).keeps hku (fun g hg e => hg.1.2.1 e)
    have new : JAt wu (fun g => wx.heap.size ≤ g ∧ g < wy.heap.size) x q := (hlt.below hal).keeps hku (fun g hg e => by
      obtain ⟨rs0, h5, _⟩ := h.lst
      obtain ⟨cur, hc⟩ := h5.own g e
      have := lt_of_block hc
      omega)
    have key : ∀ g, g < wy.heap.size → lv.ownBlock ≠ some g → v'.ownBlock ≠ some g := fun g hg h1 h2 => by
      rcases hown g h2 with e | e
      · exact h1 e
      · omega
    have old2 := old.mono (A' := InA B v' nv) (fun g hg => ⟨hg.1.1, key g hg.2 hg.1.2.1, hg.1.2.2⟩)
    have new2 := new.mono (A' := InA B v' nv) (fun g hg => ⟨by omega, key g hg.2 (fun e => by
        obtain ⟨rs0, h5, _⟩ := h.lst
        obtain ⟨cur, hc⟩ := h5.own g e
        have := lt_of_block hc
        omega), fun e => by
        obtain ⟨cur, hc⟩ := h.nms.own g e
        have := lt_of_block hc
        omega⟩)
    exact old2.snoc new2
  · refine hz.nms.keeps hku (fun g hg e => ?_)
    obtain ⟨cur, hc⟩ := hz.nms.own g hg
    obtain ⟨cur2, hc2⟩ := (h3.below hal).own g e
    have := hc.symm.trans hc2
    simp at this
/-- One more name: the append. -/
theorem ListJ.pushN (h : ListJ w wx rb bv bs l' B vb kd lc nc lv nv acc names) (hB : B ≤ wx.heap.size) (hn : names.length + 1 ≤ 1000000) (s : ByteArray) (ty : TypeId) :
    ∃ v' wu, (Builtin.append_ #[23, 23] ty #[nv, .slice (some ⟨wx.heap.size, 0, none⟩) 1 1]).run Tryz.prog (wx.alloc (.cells #[.string s] 9)) = .ok v' wu ∧ (∃ a cap, v' = .slice a (names.length + 1) cap) ∧
      wx.heap.size ≤ wu.heap.size ∧ ListJ w wu rb bv bs l' B vb kd lc nc lv v' acc (names ++ [s]) ∧ Keeps (fun k => B ≤ k) (wx.alloc (.cells #[.string s] 9)) wu := by
  have hv := h.vlt
  have hal : Below wx.heap.size wx (wx.alloc (.cells #[.string s] 9)) := (Below.refl _ _).alloc (Nat.le_refl _) _
  have hz := h.below hal
  have hq := rd_new (ek := textKind) wx s #[.string s] rfl 9
  obtain ⟨v', wu, hrun, hsl, hku, hown⟩ := append_str hz.nms hq (by simp; omega) ty
  have hS1 : ∀ k, nv.ownBlock = some k → B ≤ k := h.nown
  have hub := hku.obj (w := wx.alloc (.cells #[.string s] 9)) hz.own (fun e => by have := hS1 _ e; omega)
  have hsz1 : (wx.alloc (.cells #[.string s] 9)).heap.size = wx.heap.size + 1 := by simp
  obtain ⟨rs, h5, h6⟩ := h.lst
  have h3 := h5.below hal
  have h4' : JsAt (wx.alloc (.cells #[.string s] 9)) (fun g => InA B lv nv g ∧ g < wx.heap.size) acc rs := h6.lt.below hal
  refine ⟨v', wu, hrun, ?_, ?_, ?_⟩
  · obtain ⟨a, cap, e⟩ := hsl.shape
    exact ⟨a, cap, by rw [e, List.length_append]; rfl⟩
  · have h1 := hku.size
    omega
  have hvown : ∀ k, v'.ownBlock = some k → B ≤ k := fun k hk => by
    rcases hown k hk with e | e
    · exact h.nown k e
    · omega
  refine ⟨⟨hz.rdr.above (w := w) hku (by omega) h.rlt h.glt hS1, hz.keep.trans hku (fun k hk e => by have := hS1 _ e; omega), jbox_keeps hz.res hku (fun e => by have := hS1 _ e; omega), hub, ⟨rs, ?_, ?_⟩, hsl, h.lown, hvown, h.vlt, h.rlt, h.glt⟩, hku.mono fun k _ e => hS1 k e⟩
  · refine h3.keeps hku (fun g hg e => ?_)
    obtain ⟨cur, hc⟩ := h3.own g hg
    obtain ⟨cur2, hc2⟩ := hz.nms.own g e
    have := hc.symm.trans hc2
    simp at this
  · refine (h4'.keeps hku (fun g hg e => hg.1.2.2 e)).mono (fun g hg => ⟨hg.1.1, hg.1.2.1, fun e => ?_⟩)
    rcases hown g e with e | e
    · exact hg.1.2.2 e
    · omega
/-- The end: the value, told. -/
theorem ListJ.done (h : ListI w wx rb bv bs l' B vb kd lv nv acc names) : ∃ q : RawV, q.k = kd ∧ q.t = ⟨#[]⟩ ∧ q.lv = lv ∧ q.nv = nv ∧ JAt wx (fun g => B ≤ g) (.mk kd ⟨#[]⟩ acc names) q := by
  obtain ⟨rs, h3, h4⟩ := h.lst
  obtain ⟨a, c, e1⟩ := h3.shape
  obtain ⟨a2, c2, e2⟩ := h.nms.shape
  have hv := h.vlt
  refine ⟨⟨kd, ⟨#[]⟩, a, rs.length, c, a2, names.length, c2⟩, rfl, rfl, e1.symm, e2.symm, ?_⟩
  simp only [JAt]
  refine ⟨by trivial, by trivial, ⟨?_, fun _ g hg => ?_, h.nms.le_cap e2⟩, rs, ⟨?_, fun _ g hg => ?_⟩, h4.mono fun g hg => hg.1⟩
  · have := h.nms.rd; rw [e2] at this; exact this
  · have := h.nown g (by rw [e2]; exact hg); omega
  · have := h3.rd; rw [e1] at this; exact this
  · have := h.lown g (by rw [e1]; exact hg); omega
end
end Go.Proofs.YthjcolehccbihaaGreatDoor
