/- Plain laws of a log: what Open finds; a crash. -/
import Derived.Test.YthbfkjmpaifblaaWx4
namespace Go.Proofs.Ythbfkjmpaifblaa
open Go.RowKit

abbrev recsOf (ds : List FileS) : List (List UInt8) := ds.flatMap fun d => scanOf d.data
section
variable {F G : FsS} {dir : ByteArray} {size : Int} {first : Nat} {ds : List FileS} {x : FileS} {L : LogS} {segs pre : List (List UInt8)} {b p : List UInt8}
/-- What Open leaves. -/
structure Opened (F : FsS) (dir : ByteArray) (first : Nat) (ds : List FileS) (x : FileS) (G : FsS) (y : FileS) : Prop where
  sg : Segs G dir first (ds ++ [y])
  data : y.data = x.data.take (endOf (scanOf x.data))
  synced : x.synced = x.data.length → y.synced = y.data.length
  down : G.down = false
  calm : G.armed = 0
  room : G.room = F.room
  used : G.used = F.used - ((x.data.length : Int) - endOf (scanOf x.data))
  few : G.files.length = F.files.length
  others : ∀ m, segNum dir m = 0 → G.find m = F.find m
  whole : Whole_ x → G = F
theorem open_count {first m : Nat} (h : 1 ≤ first) : (first + (m + 1) - 1) + 1 - first = m + 1 := by omega
theorem open_out (hs : Segs F dir first (ds ++ [x])) (hw : ∀ d ∈ ds, Whole_ d) (hd : F.down = false) (ha : F.armed = 0) (hok : okName (segName dir 1) = true) (h16 : 16 ≤ size) (h20 : size ≤ 1048576) :
    ∃ G y, openL F dir size = (G, ⟨dir, size, first, first + ds.length, x.data.length - endOf (scanOf x.data), false⟩, recsOf (ds ++ [x]), 0) ∧ Opened F dir first ds x G y := by
  have hpos := hs.pos
  have hn := hs.nums (by simp)
  have hlen : (ds ++ [x]).length = ds.length + 1 := by simp
  rw [hlen] at hn
  have hlast : first + (ds.length + 1) - 1 = first + ds.length := by omega
  rw [hlast] at hn
  have hO : openL F dir size = openR F dir size first (first + ds.length) := by
    unfold openL
    rw [if_neg (by simp [hok]), if_neg (by omega), if_neg (by simp [hd]), hn]
    simp only
    rw [if_neg (by omega)]
  have hle := scan_end x.data
  have hrd := read_whole (F := F) (dir := dir) (last := first + ds.length) (cut := 0) ds first [] (fun i d hi => ⟨hs.at_ i d (by rw [List.getElem?_append_left (List.getElem?_eq_some_iff.1 hi).1]; exact hi), hw d (List.mem_of_getElem? hi)⟩) 1
  rw [List.nil_append] at hrd
  have hx : F.find (segName dir (first + ds.length)) = some x := hs.at_ ds.length x (by simp)
  have hrecs : ds.flatMap (fun d => scanOf d.data) ++ scanOf x.data = recsOf (ds ++ [x]) := by simp [recsOf]
  unfold openR at hO
  rw [show first + ds.length + 1 - first = ds.length + 1 by omega, hrd] at hO
  by_cases he : endOf (scanOf x.data) = x.data.length
  · rw [readF_whole rfl hx he] at hO
    rw [show x.data.length - endOf (scanOf x.data) = 0 by omega]
    refine ⟨F, x, by rw [hO, hrecs]; rfl, hs, by rw [he]; simp, fun e => e, hd, ha, rfl, by rw [he]; omega, rfl, fun _ _ => rfl, fun _ => rfl⟩
  · obtain ⟨E, hE⟩ : ∃ E, E = endOf (scanOf x.data) := ⟨_, rfl⟩
    have h1 := trunc_wr (n := segName dir (first + ds.length)) (k := E) hd hx (by omega)
    rcases h1 with ⟨e1, D1⟩ | ⟨_, D1⟩
    · have hf1 := find_put hs.rise D1.files (segName dir (first + ds.length))
      rw [if_pos rfl] at hf1
      have hr1 : Rise slt (F.truncate (segName dir (first + ds.length)) (E : Int)).1.files := by rw [D1.files]; exact rise_putL slt_ord hs.rise _ _
      have hs1 := hs.put (i := ds.length) (y := ⟨x.data.take E, min x.synced E⟩) (G := (F.truncate (segName dir (first + ds.length)) (E : Int)).1) (by simp) D1.files
      have h2 := sync_wr (F := (F.truncate (segName dir (first + ds.length)) (E : Int)).1) (by rw [D1.down]; exact hd) hf1
      have hl1 : (F.truncate (segName dir (first + ds.length)) (E : Int)).1.files.length = F.files.length := by rw [D1.files]; exact put_len hx hs.rise _
      have ho1 : ∀ m, segNum dir m = 0 → (F.truncate (segName dir (first + ds.length)) (E : Int)).1.find m = F.find m := fun m hm => by
        rw [find_put hs.rise D1.files, if_neg]
        intro e
        rw [e, segNum_name dir (hs.name_lt (by simp))] at hm
        omega
      rcases h2 with ⟨e2, D2⟩ | ⟨_, D2⟩
      · have hs2 := hs1.put (i := ds.length) (y := fl (x.data.take E)) (G := ((F.truncate (segName dir (first + ds.length)) (E : Int)).1.sync (segName dir (first + ds.length))).1) (by simp) D2.files
        have hcut := readF_cut (c := 0) (last := first + ds.length) (cut := 0) (out := ds.flatMap fun d => scanOf d.data) rfl hx he (by omega) (by rw [← hE]; exact e1) (by rw [← hE]; exact e2)
        rw [← hE] at hcut
        rw [hcut] at hO
        rw [← hE]
        refine ⟨((F.truncate (segName dir (first + ds.length)) (E : Int)).1.sync (segName dir (first + ds.length))).1, fl (x.data.take E), by rw [hO, ← hrecs]; rfl, ?_, by rw [hE], fun _ => rfl, by rw [D2.down, D1.down]; exact hd, D2.calm (D1.calm ha), by rw [D2.room, D1.room], by rw [D2.used, D1.used, hE], ?_, fun m hm => ?_, fun e => absurd e he⟩
        · simpa using hs2
        · rw [D2.files, put_len hf1 hr1, hl1]
        · rw [find_put hr1 D2.files, if_neg]
          · exact ho1 m hm
          · intro e
            rw [e, segNum_name dir (hs.name_lt (by simp))] at hm
            omega
      · exact absurd (D1.calm ha) D2.arm
    · exact absurd ha D1.arm
end
end Go.Proofs.Ythbfkjmpaifblaa
