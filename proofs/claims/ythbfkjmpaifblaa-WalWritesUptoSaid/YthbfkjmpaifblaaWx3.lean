/- Plain laws of a log's files: what the file system's writes do to the segments. -/
import Derived.Test.YthbfkjmpaifblaaWx2
namespace Go.Proofs.Ythbfkjmpaifblaa
open Go.RowKit

/-- A file that is synced whole. -/
abbrev fl (b : List UInt8) : FileS := ⟨b, b.length⟩
/-- What a write comes to: done, or the file system is down. -/
structure WrDone (F G : FsS) (files : List (ByteArray × FileS)) (used : Int) : Prop where
  files : G.files = files
  used : G.used = used
  room : G.room = F.room
  down : G.down = F.down
  calm : F.armed = 0 → G.armed = 0
structure WrDown (F G : FsS) : Prop where
  files : G.files = F.files
  used : G.used = F.used
  room : G.room = F.room
  down : G.down = true
  arm : F.armed ≠ 0
def Wr (F : FsS) (R : FsS × Int) (files : List (ByteArray × FileS)) (used : Int) : Prop := (R.2 = 0 ∧ WrDone F R.1 files used) ∨ (R.2 = 5 ∧ WrDown F R.1)
section
variable {F G : FsS} {n : ByteArray} {x y : FileS} {dir : ByteArray} {first : Nat} {ds : List FileS} {d : FileS}
theorem wr_write {eff : FsS → FsS} {files : List (ByteArray × FileS)} {used : Int} (h1 : ∀ a, (eff { F with armed := a }).files = files) (h2 : ∀ a, (eff { F with armed := a }).used = used)
    (h3 : ∀ a, (eff { F with armed := a }).room = F.room) (h4 : ∀ a, (eff { F with armed := a }).down = F.down) (h5 : ∀ a, (eff { F with armed := a }).armed = a) : Wr F (F.write eff) files used := by
  unfold FsS.write
  split
  · rename_i ha
    split
    · exact .inr ⟨rfl, rfl, rfl, rfl, rfl, by omega⟩
    · exact .inl ⟨rfl, h1 _, h2 _, h3 _, h4 _, fun e => by omega⟩
  · have e : ({ F with armed := F.armed } : FsS) = F := rfl
    have g1 := h1 F.armed; have g2 := h2 F.armed; have g3 := h3 F.armed; have g4 := h4 F.armed; have g5 := h5 F.armed
    rw [e] at g1 g2 g3 g4 g5
    exact .inl ⟨rfl, g1, g2, g3, g4, fun e => by rw [← e]; exact g5⟩
theorem append_wr (hd : F.down = false) (hx : F.find n = some x) {b : List UInt8} (hr : ¬ F.room - F.used < b.length) : Wr F (F.append n b) (putL slt F.files n ⟨x.data ++ b, x.synced⟩) (F.used + b.length) := by
  unfold FsS.append
  rw [on_some hd hx, if_neg hr]
  exact wr_write (fun _ => rfl) (fun _ => rfl) (fun _ => rfl) (fun _ => rfl) (fun _ => rfl)
theorem append_full (hd : F.down = false) (hx : F.find n = some x) {b : List UInt8} (hr : F.room - F.used < b.length) : F.append n b = (F, 4) := by
  unfold FsS.append
  rw [on_some hd hx, if_pos hr]
theorem sync_wr (hd : F.down = false) (hx : F.find n = some x) : Wr F (F.sync n) (putL slt F.files n (fl x.data)) F.used := by
  unfold FsS.sync
  rw [on_some hd hx]
  exact wr_write (fun _ => rfl) (fun _ => rfl) (fun _ => rfl) (fun _ => rfl) (fun _ => rfl)
theorem trunc_wr (hd : F.down = false) (hx : F.find n = some x) {k : Nat} (hk : k ≤ x.data.length) : Wr F (F.truncate n (k : Int)) (putL slt F.files n ⟨x.data.take k, min x.synced k⟩) (F.used - ((x.data.length : Int) - k)) := by
  unfold FsS.truncate
  rw [on_some hd hx, if_neg (by omega), Int.toNat_natCast]
  exact wr_write (fun _ => rfl) (fun _ => rfl) (fun _ => rfl) (fun _ => rfl) (fun _ => rfl)
theorem remove_wr (hd : F.down = false) (hx : F.find n = some x) : Wr F (F.remove n) (dropL slt F.files n) (F.used - x.data.length) := by
  unfold FsS.remove
  rw [on_some hd hx]
  exact wr_write (fun _ => rfl) (fun _ => rfl) (fun _ => rfl) (fun _ => rfl) (fun _ => rfl)
theorem create_wr (hd : F.down = false) (hn : okName n = true) (hx : F.find n = none) (hf : F.files.length < 400) : Wr F (F.create n) (putL slt F.files n (fl [])) F.used := by
  unfold FsS.create
  rw [if_neg (by simp [hd]), if_neg (by simp [hn]), if_neg (by simp [hx]), if_neg (by omega)]
  exact wr_write (fun _ => rfl) (fun _ => rfl) (fun _ => rfl) (fun _ => rfl) (fun _ => rfl)
theorem Segs.congr (h : Segs F dir first ds) (hf : G.files = F.files) : Segs G dir first ds := by
  have e : ∀ n, G.find n = F.find n := fun n => by unfold FsS.find; rw [hf]
  exact ⟨by rw [hf]; exact h.rise, h.pos, h.top, fun i d hd => by rw [e]; exact h.at_ i d hd, fun n x hx => by rw [e] at hx; exact h.only n x hx⟩
theorem Segs.name_lt (h : Segs F dir first ds) {i : Nat} (hi : i < ds.length) : first + i < 100000000 := by have := h.top; omega
theorem find_put (hr : Rise slt F.files) (hf : G.files = putL slt F.files n y) (m : ByteArray) : G.find m = if m = n then some y else F.find m := by
  unfold FsS.find
  rw [hf]
  split
  · rename_i e; subst e; exact findL_putL hr
  · rename_i e; exact findL_putL_ne hr e
theorem find_drop_ (hr : Rise slt F.files) (hf : G.files = dropL slt F.files n) (m : ByteArray) : G.find m = if m = n then none else F.find m := by
  unfold FsS.find
  rw [hf]
  split
  · rename_i e; subst e; exact findL_dropL hr
  · rename_i e; exact findL_dropL_ne hr e
/-- A segment is written. -/
theorem Segs.put (h : Segs F dir first ds) {i : Nat} (hi : i < ds.length) (hf : G.files = putL slt F.files (segName dir (first + i)) y) : Segs G dir first (ds.set i y) := by
  have hfp := find_put h.rise hf
  refine ⟨by rw [hf]; exact rise_putL slt_ord h.rise _ _, h.pos, by rw [List.length_set]; exact h.top, fun j d hd => ?_, fun n x hx hn => ?_⟩
  · rw [List.getElem?_set] at hd
    have hj : j < ds.length := by
      split at hd
      · rename_i e; omega
      · exact (List.getElem?_eq_some_iff.1 hd).1
    rw [hfp]
    split at hd
    · rename_i e
      subst e
      rw [if_pos rfl, hd]
    · rename_i e
      rw [if_neg (fun e2 => e (by have := segName_inj dir (h.name_lt hj) (h.name_lt hi) e2; omega))]
      exact h.at_ j d hd
  · rw [List.length_set]
    rw [hfp] at hx
    split at hx
    · rename_i e
      subst e
      rw [segNum_name dir (h.name_lt hi)]
      omega
    · exact h.only n x hx hn
/-- Another segment is made. -/
theorem Segs.more (h : Segs F dir first ds) (ht : first + ds.length < 100000000) (hf : G.files = putL slt F.files (segName dir (first + ds.length)) y) : Segs G dir first (ds ++ [y]) := by
  have hfp := find_put h.rise hf
  refine ⟨by rw [hf]; exact rise_putL slt_ord h.rise _ _, h.pos, by rw [List.length_append, List.length_singleton]; omega, fun j d hd => ?_, fun n x hx hn => ?_⟩
  · rw [hfp]
    by_cases hj : j < ds.length
    · rw [List.getElem?_append_left hj] at hd
      rw [if_neg (fun e2 => by have := segName_inj dir (h.name_lt hj) ht e2; omega)]
      exact h.at_ j d hd
    · have hj2 := (List.getElem?_eq_some_iff.1 hd).1
      rw [List.length_append, List.length_singleton] at hj2
      obtain rfl : j = ds.length := by omega
      rw [if_pos rfl]
      simpa using hd
  · rw [List.length_append, List.length_singleton]
    rw [hfp] at hx
    split at hx
    · rename_i e
      subst e
      rw [segNum_name dir ht]
      omega
    · have := h.only n x hx hn; omega
theorem Segs.free (h : Segs F dir first ds) (ht : first + ds.length < 100000000) : F.find (segName dir (first + ds.length)) = none := by
  cases hx : F.find (segName dir (first + ds.length)) with
  | none => rfl
  | some x =>
    have := h.only _ x hx
    rw [segNum_name dir ht] at this
    have hp := h.pos
    have := this (by omega)
    omega
/-- The first segment is taken away. -/
theorem Segs.tail (h : Segs F dir first (d :: ds)) (hf : G.files = dropL slt F.files (segName dir first)) : Segs G dir (first + 1) ds := by
  have hfp := find_drop_ h.rise hf
  have htop := h.top
  rw [List.length_cons] at htop
  have h0 : first + 0 < 100000000 := by omega
  refine ⟨by rw [hf]; exact rise_dropL h.rise _, by omega, by omega, fun j e hj => ?_, fun n x hx hn => ?_⟩
  · have hl := (List.getElem?_eq_some_iff.1 hj).1
    rw [hfp, if_neg (fun e2 => by have := segName_inj dir (by omega) (by omega) e2; omega)]
    have := h.at_ (j + 1) e (by simpa using hj)
    rwa [show first + 1 + j = first + (j + 1) by omega]
  · rw [hfp] at hx
    split at hx
    · cases hx
    · rename_i hne
      have := h.only n x hx hn
      rw [List.length_cons] at this
      have h2 : segNum dir n ≠ first := fun e => hne (by have := name_of_num dir n hn; rw [e] at this; exact this)
      omega
/-- Another file is written. -/
theorem Segs.other (h : Segs F dir first ds) (hn : segNum dir n = 0) (hf : G.files = putL slt F.files n y) : Segs G dir first ds := by
  have hfp := find_put h.rise hf
  refine ⟨by rw [hf]; exact rise_putL slt_ord h.rise _ _, h.pos, h.top, fun j d hd => ?_, fun m x hx hm => ?_⟩
  · have hl := (List.getElem?_eq_some_iff.1 hd).1
    rw [hfp, if_neg (fun e => by have := segNum_name dir (h.name_lt hl); rw [e, hn] at this; have := h.pos; omega)]
    exact h.at_ j d hd
  · rw [hfp] at hx
    split at hx
    · rename_i e; subst e; exact absurd hn hm
    · exact h.only m x hx hm
theorem Segs.crash (h : Segs F dir first ds) (kf : ByteArray → Int → Int) (es : List FileS) (hl : es.length = ds.length) (he : ∀ i d, ds[i]? = some d → es[i]? = some (crashFile kf (segName dir (first + i)) d)) : Segs (F.crash kf) dir first es := by
  have hfiles := crash_files (F := F) kf
  have hr : Rise slt (F.crash kf).files := by
    rw [hfiles]
    unfold Rise
    rw [List.pairwise_map]
    exact h.rise
  have hm : ∀ n x, F.find n = some x → (F.crash kf).find n = some (crashFile kf n x) := fun n x hx => by
    refine (mem_files hr).1 ?_
    rw [hfiles]
    exact List.mem_map.2 ⟨(n, x), (mem_files h.rise).2 hx, rfl⟩
  refine ⟨hr, h.pos, by rw [hl]; exact h.top, fun i e hi => ?_, fun n x hx hn => ?_⟩
  · have hil := (List.getElem?_eq_some_iff.1 hi).1
    have hd := List.getElem?_eq_getElem (l := ds) (i := i) (by omega)
    have h1 := he i _ hd
    rw [hi] at h1
    rw [Option.some.inj h1]
    exact hm _ _ (h.at_ i _ hd)
  · rw [hl]
    have h1 := (mem_files hr).2 hx
    rw [hfiles] at h1
    obtain ⟨⟨m, z⟩, hz, e⟩ := List.mem_map.1 h1
    simp only [Prod.mk.injEq] at e
    obtain ⟨rfl, -⟩ := e
    exact h.only m z ((mem_files h.rise).1 hz) hn
theorem put_len (hx : F.find n = some x) (hr : Rise slt F.files) (y : FileS) : (putL slt F.files n y).length = F.files.length := by
  obtain ⟨a, b, e⟩ := findL_split slt_ord hx
  rw [e] at hr ⊢
  rw [putL_eq slt_ord hr]
  simp
theorem put_len_le {l : List (ByteArray × FileS)} (hr : Rise slt l) (n : ByteArray) (y : FileS) : (putL slt l n y).length ≤ l.length + 1 := by
  rcases find_split slt_ord l hr n with ⟨_, h2⟩ | ⟨a, v, b, e, _⟩
  · have := (putL_new slt_ord l n y (fun x hx => h2 x hx)).length_eq
    simp only [List.length_cons] at this
    omega
  · rw [e] at hr ⊢
    rw [putL_eq slt_ord hr]
    simp
end
end Go.Proofs.Ythbfkjmpaifblaa
