/- The walk of the statement WalApart. -/
import Derived.Test.YthbfkjmpaifblaaWv
namespace Go.Proofs.Ythbfkjmpaifblaa
open Go.RowKit Go.Shelf

abbrev nmO : ByteArray := ⟨#[111, 116, 104, 101, 114]⟩
abbrev nmA1 : ByteArray := ⟨#[97]⟩
abbrev nmB1 : ByteArray := ⟨#[97, 47, 98]⟩
def litO : List UInt8 := [98, 121, 116, 101, 115]
theorem dirOk_a : DirOk nmA1 := ⟨by decide, by decide, by decide, by decide⟩
theorem dirOk_b : DirOk nmB1 := ⟨by decide, by decide, by decide, by decide⟩
theorem num_short {dir nm : ByteArray} (h : nm.data.toList.length ≠ dir.data.toList.length + 9) : segNum dir nm = 0 := by
  apply Classical.byContradiction
  intro hn
  have := name_of_num dir nm hn
  apply h
  rw [this, segName_list]
  simp [digs_len]
theorem apart_names {d e : ByteArray} (h : d.data.toList.length ≠ e.data.toList.length) (n : Nat) : segNum d (segName e n) = 0 := num_short (by
  rw [segName_list]
  simp [digs_len]
  exact fun k => h k.symm)
section
variable {w0 w w' W : World} {fb k la lb : Nat} {F G : FsS} {S T U : Nat → Prop} {L M : LogS} {v u : Value} {l qs qa qb segs : List (List UInt8)} {N : Nat} {dir : ByteArray} {first : Nat} {ds : List FileS} {p : List UInt8}
/-- What leaves the segments' files leaves the segments. -/
theorem Segs.same (h : Segs F dir first ds) (hr : Rise slt G.files) (hf : ∀ m, segNum dir m ≠ 0 → G.find m = F.find m) : Segs G dir first ds := by
  refine ⟨hr, h.pos, h.top, fun i d hd => ?_, fun n x hx hn => ?_⟩
  · have hi := h.name_lt (List.getElem?_eq_some_iff.1 hd).1
    rw [hf _ (by rw [segNum_name dir hi]; have := h.pos; omega)]
    exact h.at_ i d hd
  · rw [hf n hn] at hx
    exact h.only n x hx hn
theorem LogOn.same (h : LogOn F L segs) (hr : Rise slt G.files) (hf : ∀ m, segNum L.dir m ≠ 0 → G.find m = F.find m) (hd : G.down = false) : LogOn G L segs :=
  ⟨h.sg.same hr hf, h.ne, h.last, h.free, hd, h.name⟩
/-- Two logs on one file system. -/
structure Pair (F : FsS) (L M : LogS) (qa qb : List (List UInt8)) (n N : Nat) : Prop where
  onA : ∃ pre b, LogOn F L (pre ++ [b]) ∧ Holds (pre ++ [b]) qa
  onB : ∃ pre b, LogOn F M (pre ++ [b]) ∧ Holds (pre ++ [b]) qb
  firstA : L.first = 1
  firstB : M.first = 1
  apart : L.dir.data.toList.length ≠ M.dir.data.toList.length
  calm : F.armed = 0
  few : F.files.length ≤ 3 + n
  lastA : L.last ≤ 1 + n
  lastB : M.last ≤ 1 + n
  other : F.find nmO = some (fl litO)
  room : F.room = 67108864
  used : F.used ≤ ((5 + N : Nat) : Int)
  cntA : L.last ≤ 1 + qa.length
  cntB : M.last ≤ 1 + qb.length
theorem Pair.swap {n N : Nat} (h : Pair F L M qa qb n N) : Pair F M L qb qa n N := ⟨h.onB, h.onA, h.firstB, h.firstA, fun e => h.apart e.symm, h.calm, h.few, h.lastB, h.lastA, h.other, h.room, h.used, h.cntB, h.cntA⟩
theorem Pair.append {n N : Nat} (h : Pair F L M qa qb n N) (hp : p.length ≤ 1048576) (hn : n < 200) (hN : N + 8 + p.length ≤ 60000000) (hO : L.dir.data.toList.length + 9 ≠ 5) :
    (appendL L F p).2.2 = 0 ∧ Pair (appendL L F p).2.1 (appendL L F p).1 M (qa ++ [p]) qb (n + 1) (N + 8 + p.length) ∧ (appendL L F p).1.dir = L.dir ∧ (appendL L F p).1.size = L.size := by
  obtain ⟨pre, b, hA, hH⟩ := h.onA
  have hla := h.lastA
  have hfew := h.few
  have hroom := h.room
  have hused := h.used
  rcases append_out hA hp (by omega) (by omega) with ⟨e0, _, hC, eL, hLog⟩ | ⟨_, hfit, _⟩ | ⟨_, hT⟩
  · have hdir : (appendL L F p).1.dir = L.dir := by rw [eL]
    have hfst : (appendL L F p).1.first = L.first := by rw [eL]
    refine ⟨e0, ⟨?_, ?_, by rw [hfst]; exact h.firstA, h.firstB, by rw [hdir]; exact h.apart, hC.calm h.calm, by have := hC.few; omega, ?_, by have := h.lastB; omega, ?_, by rw [hC.room]; exact h.room, by rw [hC.used]; omega, ?_, h.cntB⟩, hdir, by rw [eL]⟩
    · split at hLog
      · exact ⟨_, _, hLog, hH.fresh hp⟩
      · exact ⟨_, _, hLog, hH.next hp⟩
    · obtain ⟨preB, bB, hB, hHB⟩ := h.onB
      refine ⟨preB, bB, hB.same hLog.sg.rise (fun m hm => ?_) hLog.up, hHB⟩
      refine hC.others m ?_
      rw [name_of_num M.dir m hm]
      exact apart_names h.apart _
    · have h1 := hLog.last
      have h2 := hA.last
      have h3 := h.firstA
      simp only [List.length_append, List.length_singleton] at h2
      split at h1 <;> simp only [List.length_append, List.length_singleton] at h1 <;> omega
    · rw [hC.others nmO (num_short (fun e => hO (by rw [← e]; rfl)))]
      exact h.other
    · have h1 := hLog.last
      have h2 := hA.last
      have h3 := h.firstA
      have h4 := h.cntA
      rw [List.length_append, List.length_singleton]
      simp only [List.length_append, List.length_singleton] at h2
      split at h1 <;> simp only [List.length_append, List.length_singleton] at h1 <;> omega
  · omega
  · exact absurd h.calm hT.arm
/-- Two logs in memory. -/
structure Two (w wr : World) (fb k la lb : Nat) (F : FsS) (L M : LogS) (S : Nat → Prop) : Prop where
  lg : Lg w wr fb F k S la L
  log : LogAt w.heap.size S wr lb fb M
  ne : la ≠ lb
theorem Two.swap {wr : World} (h : Two w wr fb k la lb F L M S) : Two w wr fb k lb la F M L S := ⟨⟨h.lg.hd, h.log⟩, h.lg.log, fun e => h.ne e.symm⟩
theorem Two.append {wr : World} (h : Two w wr fb k la lb F L M S) (hk : k < 100000) (hdir : L.dir.size ≤ 100000) (hlast : L.last < 99999999) {a : Option Addr} {cap : Nat} (hu : RdAt byteKind w (.slice a p.length cap) p) (hp : p.length ≤ 10000000) :
    Calls Try.prog 30 #[.pointer (some ⟨la, 0, none⟩), .slice a p.length cap] wr fun e w' => e = .returned (.int .i64 (appendL L F p).2.2) ∧ ∃ S', Two w w' fb (k + 3) la lb (appendL L F p).2.1 (appendL L F p).1 M S' := by
  refine (w_append h.lg hk hdir hlast (hu.below h.lg.hd.below) (h.lg.arg hu) hp).mono fun e w' ⟨he, hP⟩ => ⟨he, _, hP.lg, ?_, h.ne⟩
  have hlt := lt_of_block h.log.blk
  refine ⟨hP.keeps.obj h.log.blk (fun e => ?_), fun e => ?_, h.log.low⟩
  · rcases e with e | e
    · exact h.log.out e
    · exact h.ne e.symm
  · rcases e with e | e
    · exact h.log.out e
    · omega
/-- WalApart under way: k records of the one, j of the other. -/
structure ApI (w wr : World) (fb la lb : Nat) (l m : List (List UInt8)) (i j n : Nat) : Prop where
  ex : ∃ F L M S, Two w wr fb (15 + 3 * n) la lb F L M S ∧ Pair F L M (l.take i) (m.take j) n (8 * n + ((l.take i).map List.length).sum + ((m.take j).map List.length).sum) ∧ L.dir = nmA1 ∧ M.dir = nmB1
theorem ApI.swapped {wr : World} {m : List (List UInt8)} {i j n : Nat} (h : ApI w wr fb la lb l m i j n) : ∃ F L M S, Two w wr fb (15 + 3 * n) lb la F M L S ∧ Pair F M L (m.take j) (l.take i) n (8 * n + ((l.take i).map List.length).sum + ((m.take j).map List.length).sum) ∧ L.dir = nmA1 ∧ M.dir = nmB1 := by
  obtain ⟨F, L, M, S, h1, h2, h3⟩ := h.ex
  exact ⟨F, L, M, S, h1.swap, h2.swap, h3⟩
theorem take_snoc {j : Nat} {r : List UInt8} (h : l[j]? = some r) : l.take (j + 1) = l.take j ++ [r] := by
  obtain ⟨hj, e⟩ := List.getElem?_eq_some_iff.1 h
  rw [List.take_succ_eq_append_getElem hj, e]
theorem Two.mono {wr : World} {k' : Nat} (h : Two w wr fb k la lb F L M S) (hk : k ≤ k') : Two w wr fb k' la lb F L M S := ⟨⟨⟨h.lg.hd.fs, h.lg.hd.low, h.lg.hd.below, h.lg.hd.ok.mono hk⟩, h.lg.log⟩, h.log, h.ne⟩
theorem Pair.mono {n N n' N' : Nat} (h : Pair F L M qa qb n N) (hn : n ≤ n') (hN : N ≤ N') : Pair F L M qa qb n' N' :=
  ⟨h.onA, h.onB, h.firstA, h.firstB, h.apart, h.calm, by have := h.few; omega, by have := h.lastA; omega, by have := h.lastB; omega, h.other, h.room, by have := h.used; omega, h.cntA, h.cntB⟩
theorem ApI.mono {wr : World} {m : List (List UInt8)} {i j n n' : Nat} (h : ApI w wr fb la lb l m i j n) (hn : n ≤ n') : ApI w wr fb la lb l m i j n' := by
  obtain ⟨F, L, M, S, h1, h2, h3⟩ := h.ex
  exact ⟨F, L, M, S, h1.mono (by omega), h2.mono hn (by omega), h3⟩
theorem ApI.endA {wr : World} {m : List (List UInt8)} {i j n : Nat} (h : ApI w wr fb la lb l m i j n) (hi : l.length ≤ i) : ApI w wr fb la lb l m (i + 1) j n := by
  obtain ⟨F, L, M, S, h1, h2, h3⟩ := h.ex
  refine ⟨F, L, M, S, h1, ?_, h3⟩
  rw [List.take_of_length_le hi] at h2
  rw [List.take_of_length_le (by omega)]
  exact h2
theorem ApI.endB {wr : World} {m : List (List UInt8)} {i j n : Nat} (h : ApI w wr fb la lb l m i j n) (hj : m.length ≤ j) : ApI w wr fb la lb l m i (j + 1) n := by
  obtain ⟨F, L, M, S, h1, h2, h3⟩ := h.ex
  refine ⟨F, L, M, S, h1, ?_, h3⟩
  rw [List.take_of_length_le hj] at h2
  rw [List.take_of_length_le (show m.length ≤ j + 1 by omega)]
  exact h2
theorem ApI.stepA {wr : World} {m : List (List UInt8)} {i j n : Nat} (h : ApI w wr fb la lb l m i j n) {r : List UInt8} (hr : l[i]? = some r) (hn : n < 130) (hs : (l.map List.length).sum + (m.map List.length).sum ≤ 1048576) {a : Option Addr} {cap : Nat} (hu : RdAt byteKind w (.slice a r.length cap) r) :
    Calls Try.prog 30 #[.pointer (some ⟨la, 0, none⟩), .slice a r.length cap] wr fun e w' => e = .returned (.int .i64 0) ∧ Hid (ApI w w' fb la lb l m (i + 1) j (n + 1)) := by
  obtain ⟨F, L, M, S, h1, h2, h3, h4⟩ := h.ex
  have hrl := sum_mem (List.mem_of_getElem? hr)
  have ht1 := sum_take_le l i
  have ht2 := sum_take_le m j
  have ht3 := sum_take l hr
  obtain ⟨g1, g2, g3, _⟩ := h2.append (p := r) (by omega) (by omega) (by omega) (by rw [h3]; decide)
  refine (h1.append (by omega) (by rw [h3]; decide) (by have := h2.lastA; omega) hu (by omega)).mono fun e w' ⟨he, S', hT⟩ => ⟨by rw [he, g1], Lib.hid ⟨_, _, M, S', hT.mono (by omega), ?_, by rw [g3]; exact h3, h4⟩⟩
  rw [take_snoc hr]
  refine g2.mono (Nat.le_refl _) ?_
  rw [← take_snoc hr, ht3]
  omega
theorem ApI.stepB {wr : World} {m : List (List UInt8)} {i j n : Nat} (h : ApI w wr fb la lb l m i j n) {r : List UInt8} (hr : m[j]? = some r) (hn : n < 130) (hs : (l.map List.length).sum + (m.map List.length).sum ≤ 1048576) {a : Option Addr} {cap : Nat} (hu : RdAt byteKind w (.slice a r.length cap) r) :
    Calls Try.prog 30 #[.pointer (some ⟨lb, 0, none⟩), .slice a r.length cap] wr fun e w' => e = .returned (.int .i64 0) ∧ Hid (ApI w w' fb la lb l m i (j + 1) (n + 1)) := by
  obtain ⟨F, L, M, S, h1, h2, h3, h4⟩ := h.swapped
  have hrl := sum_mem (List.mem_of_getElem? hr)
  have ht1 := sum_take_le l i
  have ht2 := sum_take_le m j
  have ht3 := sum_take m hr
  obtain ⟨g1, g2, g3, _⟩ := h2.append (p := r) (by omega) (by omega) (by omega) (by rw [h4]; decide)
  refine (h1.append (by omega) (by rw [h4]; decide) (by have := h2.lastA; omega) hu (by omega)).mono fun e w' ⟨he, S', hT⟩ => ⟨by rw [he, g1], Lib.hid ⟨_, L, _, S', (hT.swap).mono (by omega), ?_, h3, by rw [g3]; exact h4⟩⟩
  rw [take_snoc hr]
  refine g2.swap.mono (Nat.le_refl _) ?_
  rw [← take_snoc hr, ht3]
  omega
def apF : FsS := ⟨67108864, 5, [(nmO, fl litO)], 3, 0, false⟩
theorem ap1 : (FsS.new 67108864).create nmO = (⟨67108864, 0, [(nmO, fl [])], 1, 0, false⟩, 0) := by kernel_rfl
theorem ap2 : (⟨67108864, 0, [(nmO, fl [])], 1, 0, false⟩ : FsS).append nmO litO = (⟨67108864, 5, [(nmO, ⟨litO, 0⟩)], 2, 0, false⟩, 0) := by kernel_rfl
theorem ap3 : (⟨67108864, 5, [(nmO, ⟨litO, 0⟩)], 2, 0, false⟩ : FsS).sync nmO = (apF, 0) := by kernel_rfl
theorem apF_segs {dir : ByteArray} (h : segNum dir nmO = 0) : Segs apF dir 1 [] := by
  have hr : Rise slt apF.files := List.pairwise_singleton _ _
  refine ⟨hr, Nat.le_refl _, by simp, fun i d hd => by simp at hd, fun n x hx hn => ?_⟩
  have hm := (mem_files hr).2 hx
  have hm : (n, x) ∈ [(nmO, fl litO)] := hm
  rw [List.mem_singleton] at hm
  injection hm with e _
  rw [e] at hn
  exact absurd h hn
/-- Both logs are opened. -/
theorem ap_open : ∃ GA GB, openL apF nmA1 32 = (GA, ⟨nmA1, 32, 1, 1, 0, false⟩, [], 0) ∧ openL GA nmB1 48 = (GB, ⟨nmB1, 48, 1, 1, 0, false⟩, [], 0) ∧ GA.used = 5 ∧ scanNums (segNums apF nmA1) 0 0 = some (0, 0) ∧ scanNums (segNums GA nmB1) 0 0 = some (0, 0) ∧
    Pair GB ⟨nmA1, 32, 1, 1, 0, false⟩ ⟨nmB1, 48, 1, 1, 0, false⟩ [] [] 0 0 := by
  have hsA : Segs apF nmA1 1 [] := apF_segs (num_short (by decide))
  have hsB : Segs apF nmB1 1 [] := apF_segs (num_short (by decide))
  obtain ⟨GA, hoA, hlA, haA, hrA, huA, hfA⟩ := open_none (size := 32) hsA dirOk_a (by omega) (by omega) rfl rfl (by decide)
  have hzB : segNum nmB1 (segName nmA1 1) = 0 := apart_names (by decide) 1
  have hzA : segNum nmA1 (segName nmB1 1) = 0 := apart_names (by decide) 1
  have hsB2 : Segs GA nmB1 1 [] := hsB.other hzB hfA
  have hlenA : GA.files.length ≤ 2 := by rw [hfA]; exact put_len_le hsA.rise _ _
  obtain ⟨GB, hoB, hlB, haB, hrB, huB, hfB⟩ := open_none (size := 48) hsB2 dirOk_b (by omega) (by omega) hlA.up haA (by omega)
  have hlenB : GB.files.length ≤ 3 := by rw [hfB]; have := put_len_le hsB2.rise (segName nmB1 1) (fl []); omega
  refine ⟨GA, GB, hoA, hoB, huA, hsA.empty, hsB2.empty, ⟨⟨[], [], ?_, Holds.empty⟩, ⟨[], [], hlB, Holds.empty⟩, rfl, rfl, (by decide), haB, by omega, Nat.le_refl _, Nat.le_refl _, ?_, by rw [hrB, hrA]; rfl, by rw [huB, huA]; exact Int.le_refl _, Nat.le_refl _, Nat.le_refl _⟩⟩
  · refine hlA.same hlB.sg.rise (fun m hm => ?_) hlB.up
    rw [find_put hsB2.rise hfB, if_neg]
    intro e
    rw [e] at hm
    exact hm hzA
  · rw [find_put hsB2.rise hfB, if_neg (by intro e; have := segNum_name nmB1 (n := 1) (by omega); rw [← e, num_short (by decide)] at this; omega), find_put hsA.rise hfA, if_neg (by intro e; have := segNum_name nmA1 (n := 1) (by omega); rw [← e, num_short (by decide)] at this; omega)]
    kernel_rfl
/-- One of the two logs is opened again. -/
theorem Pair.again {n N : Nat} {dir : ByteArray} {size : Int} (h : Pair F L M qa qb n N) (ho : FsOk F k) (hd : L.dir = dir) (hdo : DirOk dir) (h16 : 16 ≤ size) (h20 : size ≤ 1048576) (hN : (1 + qa.length) * (5 + N) ≤ 80000000) :
    (∃ L', openL (F.crash fun _ _ => 0) dir size = (F.crash fun _ _ => 0, L', qa, 0)) ∧ ∀ f m, scanNums (segNums (F.crash fun _ _ => 0) dir) 0 0 = some (f, m) → (m + 1 - f) * (F.crash fun _ _ => 0).used.toNat ≤ 80000000 := by
  obtain ⟨pre, b, hA, hH⟩ := h.onA
  have hseg := hA.crash fun _ _ => 0
  rw [hd, h.firstA] at hseg
  constructor
  · obtain ⟨G', L', rs, hAg, hrs⟩ := reopen (j := 0) (t := []) (p := []) (pre := pre) (c := b) (size := size) (by simpa using hseg) hH (.inl rfl) (by simp) hdo h16 h20 rfl rfl
    have e := hAg.open_
    rw [(hrs rfl).1, (hrs rfl).2] at e
    exact ⟨L', e⟩
  · intro f m hfm
    rw [hseg.nums (by simp)] at hfm
    simp only [Option.some.injEq, Prod.mk.injEq, List.length_map] at hfm
    obtain ⟨rfl, rfl⟩ := hfm
    have h1 := crash_used ho fun _ _ => 0
    have h2 := h.used
    have h3 := hA.last
    have h4 := h.cntA
    have h5 := h.firstA
    exact Nat.le_trans (Nat.mul_le_mul (show 1 + (pre ++ [b]).length - 1 + 1 - 1 ≤ 1 + qa.length by omega) (show (F.crash fun _ _ => 0).used.toNat ≤ 5 + N by omega)) hN
theorem Pair.crash_other {n N : Nat} (h : Pair F L M qa qb n N) (hr : Rise slt F.files) : (F.crash fun _ _ => 0).find nmO = some (fl litO) := by
  have hfiles := crash_files (F := F) fun _ _ => 0
  have hr2 : Rise slt (F.crash fun _ _ => 0).files := by
    rw [hfiles]
    unfold Rise
    rw [List.pairwise_map]
    exact hr
  refine (mem_files hr2).1 ?_
  rw [hfiles]
  refine List.mem_map.2 ⟨(nmO, fl litO), (mem_files hr).2 h.other, ?_⟩
  rw [crashFile_synced rfl]
set_option maxRecDepth 100000 in
set_option maxHeartbeats 8000000 in
theorem l_walApart {u v : Value} {l m : List (List UInt8)} (hl : ListsAt w u l 1048576) (hm : ListsAt w v m 1048576) (hs : (l.map List.length).sum + (m.map List.length).sum ≤ 1048576) :
    Calls Try.prog 7 #[u, v] w fun e w' => e = .returned (.bool true) ∧ Below w.heap.size w w' := by
  have kc := fun (w : World) (C : Array Value) (n c : Nat) => Lib.run_convert_bytes_const (P := Try.prog) w 22 5 C n c Try.underlying22 Try.underlying5
  obtain ⟨a0, c0, rfl⟩ := hl.rd.shape
  obtain ⟨a1, c1, rfl⟩ := hm.rd.shape
  have HL := Lib.hid hl
  have HM := Lib.hid hm
  have HS := Lib.hid hs
  clear hl hm hs
  go_enter Try.func7, Try.ntmps7
  go_wp2_with (fail)
  refine (x_wfirst (w := w)).mono ?_
  rintro e w1 ⟨rfl, hb1⟩
  have HB1 := Lib.hid hb1
  clear hb1
  go_wp2_with (fail)
  refine (x_wfew (HL.out.below HB1.out)).mono ?_
  rintro e w2 ⟨bb, rfl, hbf, hb2⟩
  have HB2 : Hid (Below w.heap.size w w2) := Lib.hid (HB1.out.trans (hb2.mono HB1.out.size))
  clear hb2
  cases bb with
  | false =>
    clear hbf
    go_wp2_with (fail)
    go_ret
    exact ⟨rfl, HB2.out⟩
  | true =>
    have hle : l.length ≤ 60 := hbf rfl
    have HLE := Lib.hid hle
    have hle1 : (l.length : Int) ≤ 60 := by omega
    clear hbf hle
    go_wp2_with (fail)
    refine (x_wfew (HM.out.below HB2.out)).mono ?_
    rintro e w2' ⟨bb, rfl, hbf, hb2⟩
    have HB2 : Hid (Below w.heap.size w w2') := Lib.hid (HB2.out.trans (hb2.mono HB2.out.size))
    clear hb2
    cases bb with
    | false =>
      clear hbf
      go_wp2_with (fail)
      go_ret
      exact ⟨rfl, HB2.out⟩
    | true =>
      have hle : m.length ≤ 60 := hbf rfl
      have HME := Lib.hid hle
      have hle2 : (m.length : Int) ≤ 60 := by omega
      clear hbf hle
      go_wp2_with (fail)
      refine (f_new 67108864 (by omega) (by omega)).mono ?_
      rintro e w3 ⟨fb, rfl, hf, hb⟩
      have HF : Hid (Hd w w3 fb (FsS.new 67108864) 0 (New w2' w3 fun _ => False)) := Lib.hid ⟨hf, fun i e => by rcases e with e | e; exact e.elim; have := HB2.out.size; omega, HB2.out.trans (hb.mono HB2.out.size), FsOk.new0 67108864⟩
      clear hf hb
      go_wp2_with (fail)
      refine (d_create HF.out (by omega) nmO).mono ?_
      rw [ap1]
      rintro e w4 ⟨rfl, hd, -⟩
      have HF4 := Lib.hid hd
      clear hd HF
      go_wp2_with (fail)
      refine (append_lit HF4.out.fs HF4.out.ok (by omega) nmO litO (by decide)).mono ?_
      have hok5 := HF4.out.ok.append nmO litO
      rw [ap2] at hok5 ⊢
      rintro e w5 ⟨rfl, hp5⟩
      have HF5 := Lib.hid (HF4.out.post hp5 hok5)
      clear hp5 hok5 HF4
      go_wp2_with (fail)
      refine (d_sync HF5.out (by omega) nmO).mono ?_
      rw [ap3]
      rintro e w6 ⟨rfl, hd, -⟩
      obtain ⟨S6, hS6⟩ : ∃ S6, Hid (Hd w w6 fb apF 3 S6) := ⟨_, Lib.hid hd⟩
      have HF6 := hS6
      clear hd hS6 HF5
      obtain ⟨GA, GB, hoA, hoB, huA, hnA, hnB, hpair⟩ := ap_open
      have HOB := Lib.hid hoB
      have HNB := Lib.hid hnB
      have HPR := Lib.hid hpair
      have HUA := Lib.hid huA
      go_wp2_with (fail)
      refine (w_open HF6.out (by omega) nmA1 (by decide) 32 (fun f m hfm => by rw [hnA] at hfm; simp only [Option.some.injEq, Prod.mk.injEq] at hfm; obtain ⟨rfl, rfl⟩ := hfm; show 1 * 5 ≤ _; omega)).mono ?_
      rw [hoA]
      rintro e w7 ⟨lv, x1, rfl, hO⟩
      obtain ⟨la, rfl, -, T, -, hlg, hx⟩ := hO.good rfl
      have HL7 := Lib.hid hlg
      obtain ⟨ax, cx, rfl⟩ := hx.shape
      clear hO hlg hx hoA hoB huA hnA hnB hpair HF6
      go_wp2_with (fail)
      refine (w_open HL7.out.hd (by omega) nmB1 (by decide) 48 (fun f m hfm => by rw [HNB.out] at hfm; simp only [Option.some.injEq, Prod.mk.injEq] at hfm; obtain ⟨rfl, rfl⟩ := hfm; rw [HUA.out]; decide)).mono ?_
      rw [HOB.out]
      rintro e w8 ⟨lv, x2, rfl, hO⟩
      obtain ⟨lb, rfl, hlb, T2, hT2, hlg, hx⟩ := hO.good rfl
      have HI : Hid (ApI w w8 fb la lb l m 0 0 0) := Lib.hid (by
        have hblk := lt_of_block HL7.out.log.blk
        have hlgA : LogAt w.heap.size T2 w8 la fb ⟨nmA1, 32, 1, 1, 0, false⟩ := ⟨hO.keeps.obj HL7.out.log.blk HL7.out.log.out, fun e => by
          rcases hT2 la e with e2 | e2
          · exact HL7.out.log.out e2
          · omega, HL7.out.log.low⟩
        exact ⟨GB, _, _, T2, (⟨⟨⟨hlg.hd.fs, hlg.hd.low, hlg.hd.below, hlg.hd.ok.mono (by omega)⟩, hlgA⟩, hlg.log, by omega⟩ : Two w w8 fb 15 la lb GB _ _ T2), HPR.out, rfl, rfl⟩)
      obtain ⟨ay, cy, rfl⟩ := hx.shape
      clear hO hlg hx hT2 HL7 hlb
      go_wp2_with (first | (go_at_call 27; refine (r_num _ _).mono ?_; rintro e w' ⟨rfl, rfl⟩))
      go_loopw [14] (fun q wr => ∃ i : Nat, i ≤ 60 ∧ q = .int .i64 (i : Int) ∧ Hid (ApI w wr fb la lb l m i i (2 * i))) (fun q _ => max l.length m.length - (intOf q).toNat)
      case atStart => exact ⟨0, Nat.zero_le _, rfl, HI⟩
      case round =>
        obtain ⟨i, hi60, rfl, HX⟩ := hrel
        have HBW : Hid (Below w.heap.size w wr) := Lib.hid (by obtain ⟨F, L, M, S, h1, _⟩ := HX.out.ex; exact h1.lg.hd.below)
        have HI60 := Lib.hid hi60
        have hk1 : (0 : Int) ≤ (i : Int) := by omega
        by_cases hltx : i < l.length
        · have hk2 : (i : Int) < (l.length : Int) := by omega
          obtain ⟨xr, xhr⟩ : ∃ r, l[i]? = some r := ⟨_, List.getElem?_eq_getElem hltx⟩
          obtain ⟨xg, xoff, xcap, xa, xc, hv, xhc, xhrd, -, -, xhrn⟩ := HL.out.at_ xhr
          injection hv with hv _ hv3
          subst hv hv3
          have xHRR := Lib.hid xhr
          have xHRD := Lib.hid xhrd
          have xCELL : Hid (∀ W, Below w.heap.size w W → W.cell? ⟨xg, xoff + i, none⟩ = some (.slice xa xr.length xc)) := Lib.hid fun W hW => (hW.cell (p := ⟨xg, xoff + i, none⟩) (World.block_lt_of_cell? w _ xhc)).trans xhc
          clear xhr xhrd xhc xhrn
          have xc := xCELL.out wr HBW.out
          go_wp2_with (fail)
          refine (HX.out.stepA xHRR.out (by have := HI60.out; omega) HS.out (xHRD.out)).mono ?_
          rintro e w9 ⟨rfl, HX9⟩
          have HBW9 : Hid (Below w.heap.size w w9) := Lib.hid (by obtain ⟨F, L, M, S, h1, _⟩ := HX9.out.ex; exact h1.lg.hd.below)
          by_cases hlty : i < m.length
          · have hk3 : (i : Int) < (m.length : Int) := by omega
            obtain ⟨yr, yhr⟩ : ∃ r, m[i]? = some r := ⟨_, List.getElem?_eq_getElem hlty⟩
            obtain ⟨yg, yoff, ycap, ya, yc, hv, yhc, yhrd, -, -, yhrn⟩ := HM.out.at_ yhr
            injection hv with hv _ hv3
            subst hv hv3
            have yHRR := Lib.hid yhr
            have yHRD := Lib.hid yhrd
            have yCELL : Hid (∀ W, Below w.heap.size w W → W.cell? ⟨yg, yoff + i, none⟩ = some (.slice ya yr.length yc)) := Lib.hid fun W hW => (hW.cell (p := ⟨yg, yoff + i, none⟩) (World.block_lt_of_cell? w _ yhc)).trans yhc
            clear yhr yhrd yhc yhrn
            have yc := yCELL.out w9 HBW9.out
            clear xc
            go_wp2_with (first | (go_at_call 27; refine (r_num _ _).mono ?_; rintro e w' ⟨rfl, rfl⟩))
            refine (HX9.out.stepB yHRR.out (by have := HI60.out; omega) HS.out (yHRD.out)).mono ?_
            rintro e w10 ⟨rfl, HX10⟩
            have HNX : Hid (ApI w w10 fb la lb l m (i + 1) (i + 1) (2 * (i + 1))) := Lib.hid (HX10.out.mono (by omega))
            clear yc
            go_wp2_with (first | (go_at_call 27; refine (r_num _ _).mono ?_; rintro e w' ⟨rfl, rfl⟩))
            go_roundw
            case rel => exact ⟨i + 1, by have := HLE.out; omega, by go_num, HNX⟩
            case measure => simp [intOf]; omega
          · have hk3 : ¬ ((i : Int) < (m.length : Int)) := by omega
            have HNX : Hid (ApI w w9 fb la lb l m (i + 1) (i + 1) (2 * (i + 1))) := Lib.hid ((HX9.out.endB (by omega)).mono (by omega))
            clear xc
            go_wp2_with (first | (go_at_call 27; refine (r_num _ _).mono ?_; rintro e w' ⟨rfl, rfl⟩))
            go_roundw
            case rel => exact ⟨i + 1, by have := HLE.out; omega, by go_num, HNX⟩
            case measure => simp [intOf]; omega
        · have hk2 : ¬ ((i : Int) < (l.length : Int)) := by omega
          by_cases hlty : i < m.length
          · have hk3 : (i : Int) < (m.length : Int) := by omega
            obtain ⟨yr, yhr⟩ : ∃ r, m[i]? = some r := ⟨_, List.getElem?_eq_getElem hlty⟩
            obtain ⟨yg, yoff, ycap, ya, yc, hv, yhc, yhrd, -, -, yhrn⟩ := HM.out.at_ yhr
            injection hv with hv _ hv3
            subst hv hv3
            have yHRR := Lib.hid yhr
            have yHRD := Lib.hid yhrd
            have yCELL : Hid (∀ W, Below w.heap.size w W → W.cell? ⟨yg, yoff + i, none⟩ = some (.slice ya yr.length yc)) := Lib.hid fun W hW => (hW.cell (p := ⟨yg, yoff + i, none⟩) (World.block_lt_of_cell? w _ yhc)).trans yhc
            clear yhr yhrd yhc yhrn
            have yc := yCELL.out wr HBW.out
            go_wp2_with (first | (go_at_call 27; refine (r_num _ _).mono ?_; rintro e w' ⟨rfl, rfl⟩))
            refine ((HX.out.endA (by omega)).stepB yHRR.out (by have := HI60.out; omega) HS.out (yHRD.out)).mono ?_
            rintro e w10 ⟨rfl, HX10⟩
            have HNX : Hid (ApI w w10 fb la lb l m (i + 1) (i + 1) (2 * (i + 1))) := Lib.hid (HX10.out.mono (by omega))
            clear yc
            go_wp2_with (first | (go_at_call 27; refine (r_num _ _).mono ?_; rintro e w' ⟨rfl, rfl⟩))
            go_roundw
            case rel => exact ⟨i + 1, by have := HME.out; omega, by go_num, HNX⟩
            case measure => simp [intOf]; omega
          · have hk3 : ¬ ((i : Int) < (m.length : Int)) := by omega
            go_wp2_with (fail)
            obtain ⟨F, L, M, S, hT, hPr, hdA, hdB⟩ := HX.out.ex
            have htl := List.length_take_le i l
            have htm := List.length_take_le i m
            have el : l.take i = l := List.take_of_length_le (by omega)
            have em : m.take i = m := List.take_of_length_le (by omega)
            rw [el, em] at hPr
            have hNN : 5 + (8 * (2 * i) + (l.map List.length).sum + (m.map List.length).sum) ≤ 1100000 := by have := HI60.out; have := HS.out; omega
            obtain ⟨⟨LA, hoA⟩, huA⟩ := hPr.again (dir := nmA1) (size := 32) hT.lg.hd.ok hdA dirOk_a (by omega) (by omega) (Nat.le_trans (Nat.mul_le_mul (show 1 + l.length ≤ 61 by have := HLE.out; omega) hNN) (by omega))
            obtain ⟨⟨LB, hoB⟩, huB⟩ := hPr.swap.again (dir := nmB1) (size := 48) hT.lg.hd.ok hdB dirOk_b (by omega) (by omega) (Nat.le_trans (Nat.mul_le_mul (show 1 + m.length ≤ 61 by have := HME.out; omega) hNN) (by omega))
            have hfo := hPr.crash_other hT.lg.hd.ok.rise
            obtain ⟨G, hG⟩ : ∃ G, G = F.crash fun _ _ => 0 := ⟨_, rfl⟩
            rw [← hG] at hoA huA hoB huB hfo
            have HOA := Lib.hid hoA
            have HOB := Lib.hid hoB
            have HUA := Lib.hid huA
            have HUB := Lib.hid huB
            have HFO := Lib.hid hfo
            refine (d_crash_nil hT.lg.hd).mono ?_
            rintro e w9 ⟨rfl, hd, -⟩
            rw [← hG] at hd
            have HD9 : Hid (∃ S, Hd w w9 fb G (15 + 3 * (2 * i)) S) := Lib.hid ⟨_, hd⟩
            clear hd hT hPr hdA hdB htl htm el em hNN hoA huA hoB huB hfo hG
            obtain ⟨S9, hd9⟩ := HD9.out
            have HD := Lib.hid hd9
            clear hd9 HD9
            go_wp2_with (fail)
            refine (w_open HD.out (by have := HI60.out; omega) nmA1 (by decide) 32 HUA.out).mono ?_
            rw [HOA.out]
            rintro e w10 ⟨lv, x1, rfl, hO⟩
            obtain ⟨la2, rfl, -, T10, -, hlg, hx⟩ := hO.good rfl
            have HX10 := Lib.hid hx
            have HD10 := Lib.hid hlg.hd
            obtain ⟨a10, c10, rfl⟩ := hx.shape
            clear hO hlg hx HD
            go_wp2_with (fail)
            refine (w_open HD10.out (by have := HI60.out; omega) nmB1 (by decide) 48 HUB.out).mono ?_
            rw [HOB.out]
            rintro e w11 ⟨lv, x2, rfl, hO⟩
            obtain ⟨lb2, rfl, -, T11, -, hlg, hx⟩ := hO.good rfl
            have HX11 := Lib.hid hx.rd
            have HX10 : Hid (LrAt w11 (.slice a10 l.length c10) l) := Lib.hid (HX10.out.keeps hO.keeps (fun i e => .inl e)).rd
            have HD11 := Lib.hid hlg.hd
            obtain ⟨a11, c11, rfl⟩ := hx.shape
            clear hO hlg hx HD10
            go_wp2_with (fail)
            refine (d_read HD11.out HFO.out).mono ?_
            rintro e w12 ⟨a12, c12, rfl, hfr, hd12⟩
            have HB12 : Hid (Below w.heap.size w w12) := Lib.hid hd12.below
            have HX10 := Lib.hid (HX10.out.below hfr.below)
            have HX11 := Lib.hid (HX11.out.below hfr.below)
            have HCV : Hid (∀ W, Below w12.heap.size w12 W → (convert 22 9 (.slice a12 litO.length c12)).run Try.prog W = .ok (.string ⟨#[98, 121, 116, 101, 115]⟩) W) := Lib.hid fun W hW => run_text (hfr.sl.rd.below hW)
            clear hfr hd12 HD11
            go_wp2_with (first | (go_at_call 27; refine (r_num _ _).mono ?_; rintro e w' ⟨rfl, rfl⟩))
            have hb12' := HB12.out
            refine (r_sameLists HX10.out (HL.out.below HB12.out).rd (by have := HLE.out; omega) (fun q hq => by have h1 := sum_mem hq; have h2 := HL.out.bulk; omega)).mono ?_
            rintro e w13 ⟨rfl, hb13⟩
            have HX11 := Lib.hid (HX11.out.below hb13)
            have HB13 := Lib.hid (HB12.out.trans (hb13.mono HB12.out.size))
            have HBB := Lib.hid hb13
            clear hb13 hb12'
            go_wp2_with (fail)
            refine (r_sameLists HX11.out (HM.out.below HB13.out).rd (by have := HME.out; omega) (fun q hq => by have h1 := sum_mem hq; have h2 := HM.out.bulk; omega)).mono ?_
            rintro e w14 ⟨rfl, hb14⟩
            have hcv := HCV.out w14 (HBB.out.trans (hb14.mono HBB.out.size))
            have HR : Hid (Below w.heap.size w w14) := Lib.hid (HB13.out.trans (hb14.mono HB13.out.size))
            clear hb14
            go_wp2_with (fail)
            go_ret
            exact ⟨rfl, HR.out⟩
end
end Go.Proofs.Ythbfkjmpaifblaa
