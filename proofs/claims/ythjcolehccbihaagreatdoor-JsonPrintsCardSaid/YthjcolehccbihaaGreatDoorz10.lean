/- The walk of a JSON reader's text. -/
import Derived.Test.YthjcolehccbihaaGreatDoorz09
namespace Go.Proofs.YthjcolehccbihaaGreatDoor
open Go.RowKit Go.Shelf
open Go.Lib (encodeRune byteCells)
theorem escaped_lt {pl : Nat} {l : List UInt8} {x : Nat} {r : List UInt8} (h : escaped pl l = .ok x r) : x < 0x110000 := by
  cases l with
  | nil => cases h
  | cons c l =>
    unfold escaped at h
    dsimp only at h
    have hm := mark_ok c
    unfold markOk at hm
    cases hv : markVal c with
    | some v =>
      rw [hv] at h hm
      simp only [decide_eq_true_eq] at hm
      simp only [Out.ok.injEq] at h
      omega
    | none =>
      rw [hv] at h
      dsimp only at h
      split at h
      · cases hf : fourN pl 4 0 l with
        | bad p e => rw [hf] at h; cases h
        | ok y r5 =>
          have hy := four_lt _ _ _ _ _ _ hf
          rw [hf] at h
          simp only [Out.andThen_ok] at h
          split at h
          · simp only [Out.ok.injEq] at h; omega
          · split at h
            · cases h
            · unfold second at h
              cases h1 : mustIs 92 pl r5 with
              | bad p e => rw [h1] at h; cases h
              | ok _ r6 =>
                rw [h1] at h
                simp only [Out.andThen_ok] at h
                cases h2 : mustIs 117 pl r6 with
                | bad p e => rw [h2] at h; cases h
                | ok _ r7 =>
                  rw [h2] at h
                  simp only [Out.andThen_ok] at h
                  cases h3 : fourN pl 4 0 r7 with
                  | bad p e => rw [h3] at h; cases h
                  | ok z r8 =>
                    rw [h3] at h
                    simp only [Out.andThen_ok] at h
                    split at h
                    · cases h
                    · simp only [Out.ok.injEq] at h; omega
      · cases h
theorem encode_le (r : Int) : (encodeRune r).length ≤ 4 := by
  have := Lib.encodeRuneZ_length r
  simpa [encodeRune] using this.2
def VStr (_ : World) (v : Value) (x : List UInt8) : Prop := v = .string (str x)
/-- What stands while a string is read. -/
structure TextI (w wx : World) (rb : Nat) (bv : Value) (bs : List UInt8) (v : Value) (out l' : List UInt8) : Prop where
  rdr : Rdr wx rb bv bs l'
  keep : Keeps (Only rb) w wx
  row : RowAt wx w.heap.size v out
  small : out.length + 4 * l'.length ≤ 4 * bs.length
  rlt : rb < w.heap.size
  glt : ∀ g, bv.ownBlock = some g → bs ≠ [] → g < w.heap.size
theorem TextI.step {w wx wy : World} {rb : Nat} {bv : Value} {bs out l' r : List UInt8} {v : Value} (h : TextI w wx rb bv bs v out l') (h2 : Rdr wy rb bv bs r) (hk : Keeps (Only rb) wx wy) (hr : r.length ≤ l'.length) : TextI w wy rb bv bs v out r :=
  ⟨h2, h.keep.trans' hk, h.row.keeps hk (fun g hg e => by have e : g = rb := e; have := h.rlt; omega), by have := h.small; omega, h.rlt, h.glt⟩
theorem TextI.drew {w wx : World} {rb : Nat} {bv : Value} {bs out l' : List UInt8} {v : Value} (h : TextI w wx rb bv bs v out l') (n : Nat) : TextI w (wx.drewN n) rb bv bs v out l' :=
  h.step (h.rdr.below (below_drewN _ _ _)) ((Keeps.refl _ _).drewN n) (Nat.le_refl _)
theorem TextI.below {w wx wy : World} {rb : Nat} {bv : Value} {bs out l' : List UInt8} {v : Value} (h : TextI w wx rb bv bs v out l') (hb : Below wx.heap.size wx wy) : TextI w wy rb bv bs v out l' :=
  h.step (h.rdr.below hb) ((Keeps.of_below hb).mono fun _ _ h => h.elim) (Nat.le_refl _)
theorem TextI.big {w wx : World} {rb : Nat} {bv : Value} {bs out l' : List UInt8} {v : Value} (h : TextI w wx rb bv bs v out l') : w.heap.size ≤ wx.heap.size := h.keep.size
/-- More at the row's end. -/
theorem TextI.more {w wx wy : World} {rb : Nat} {bv : Value} {bs out out' l' : List UInt8} {v v' : Value} (h : TextI w wx rb bv bs v out l') (hr : RowAt wy w.heap.size v' out') (hk : Keeps (fun k => w.heap.size ≤ k) wx wy) (hs : out'.length + 4 * l'.length ≤ 4 * bs.length) : TextI w wy rb bv bs v' out' l' :=
  ⟨h.rdr.keeps hk (fun e => by have e : w.heap.size ≤ rb := e; have := h.rlt; omega) (fun g hg hb e => by have e : w.heap.size ≤ g := e; have := h.glt g hg hb; omega) (fun k e => by have e : w.heap.size ≤ k := e; have := h.rdr.big; have := h.rlt; omega),
    h.keep.trans hk (fun k hk e => by have e : w.heap.size ≤ k := e; omega), hr, hs, h.rlt, h.glt⟩
section
variable {w : World} {rb : Nat} {bv : Value} {bs l : List UInt8}
set_option maxRecDepth 100000 in
set_option maxHeartbeats 4000000 in
theorem j_text (h : Rdr w rb bv bs (34 :: l)) : Calls Tryz.prog 74 #[.pointer (some ⟨rb, 0, none⟩)] w (ROut rb bv bs w VStr (text l)) := by
  obtain ⟨RES, hres⟩ : ∃ o, o = text l := ⟨_, rfl⟩
  rw [← hres]
  have HRES := Lib.hid hres
  obtain ⟨a0, cap0, -, rfl, -⟩ := h.parts
  have HR := Lib.hid h
  have HM := Lib.hid (j_must 34 h)
  clear hres h
  go_enter Tryz.func74, Tryz.ntmps74
  go_wp2_with (fail)
  refine HM.out.mono ?_
  intro e w1 hp
  rw [show musts [34] (34 :: l) = .ok () l from by simp [musts]] at hp
  obtain ⟨⟨v, rfl, rfl⟩, hr, hk⟩ := hp
  have HI1 : Hid (TextI w w1 rb (.slice a0 bs.length cap0) bs (.slice none 0 0) [] l) := Lib.hid ⟨hr, hk, RowAt.nil _ _, by have := suf_len hr.suf; simp; omega, HR.out.lt, HR.out.glt⟩
  clear hr hk HM
  go_wp2_with (fail)
  go_loopg [3] (l.length + 1) (fun gk ov wx => ∃ (a : Option Addr) (cap : Nat) (out l' : List UInt8), ov = .slice a out.length cap ∧ Hid (l'.length < gk) ∧ Hid (textN gk out l' = RES) ∧ Hid (TextI w wx rb (.slice a0 bs.length cap0) bs (.slice a out.length cap) out l'))
  case atStart => exact ⟨none, 0, [], l, rfl, Lib.hid (by omega), Lib.hid HRES.out.symm, HI1⟩
  case round =>
    obtain ⟨a, cap, out, l', rfl, HG, HE, HI⟩ := hrel
    obtain ⟨n, rfl⟩ : ∃ n, gk = n + 1 := ⟨gk - 1, by have := HG.out; omega⟩
    cases l' with
    | nil =>
      have HB : Hid (RES = .bad 0 11) := Lib.hid (by rw [← HE.out]; simp [textN])
      have HH := Lib.hid (j_here_end HI.out.rdr)
      go_wp2_with (fail)
      refine HH.out.mono ?_
      rintro e w2 ⟨rfl, n2, rfl⟩
      obtain ⟨k, c0, c1, t0⟩ := HI.out.rdr.atEnd
      go_wp2_with (fail)
      go_quiet (fail)
      go_wp2_with (fail)
      refine (j_wrong ((HI.out.drew _).rdr)).mono ?_
      rintro e w' ⟨rfl, rfl⟩
      refine leave_panic (P := Tryz.prog) (fn := Tryz.f74) rfl ?_
      rw [HB.out]
      exact ⟨rfl, ((HI.out.drew _).keep)⟩
    | cons c l' =>
      have HH := Lib.hid (j_here HI.out.rdr)
      obtain ⟨k, g, off, ea, c0, c1, f1, c2, t0, t1, t2, HN⟩ := HI.out.rdr.next
      subst ea
      obtain ⟨cv, hcv⟩ : ∃ cv : Int, cv = (c.toNat : Int) := ⟨_, rfl⟩
      rw [← hcv] at HH c2
      have HCV := Lib.hid hcv
      have hcb : 0 ≤ cv ∧ cv < 256 := by have := c.toNat_lt; omega
      obtain ⟨hc0, hc1⟩ := hcb
      by_cases h1 : c < 32
      · have HB : Hid (RES = .bad (l'.length + 1) 11) := Lib.hid (by rw [← HE.out]; simp only [textN]; rw [if_pos h1])
        have j1 : decide (cv < 32) = true := by have : c.toNat < 32 := h1; simp; omega
        clear hcv h1
        go_wp2_with (fail)
        refine HH.out.mono ?_
        rintro e w2 ⟨rfl, n2, rfl⟩
        go_wp2_with (fail)
        go_quiet (fail)
        go_wp2_with (fail)
        refine (j_wrong ((HI.out.drew _).rdr)).mono ?_
        rintro e w' ⟨rfl, rfl⟩
        refine leave_panic (P := Tryz.prog) (fn := Tryz.f74) rfl ?_
        rw [HB.out]
        exact ⟨rfl, ((HI.out.drew _).keep)⟩
      · have j1 : decide (cv < 32) = false := by have : ¬ c.toNat < 32 := h1; simp; omega
        by_cases h2 : c = 34
        · have HB : Hid (RES = .ok out l') := Lib.hid (by rw [← HE.out]; simp only [textN]; rw [if_neg h1, if_pos h2])
          have j2 : (cv == 34) = true := by rw [hcv, h2]; rfl
          clear hcv h1 h2
          go_wp2_with (fail)
          refine HH.out.mono ?_
          rintro e w2 ⟨rfl, n2, rfl⟩
          go_wp2_with (fail)
          go_quiet (fail)
          go_upto_region 15 with (fail)
          have hi3 : TextI w ((wr.drewN (n2 + nq)).setCell ⟨rb, 1, none⟩ (.int .i64 ((k : Int) + 1))) rb (.slice (some ⟨g, off, none⟩) bs.length cap0) bs (.slice a out.length cap) out l' :=
            (HI.out.drew (n2 + nq)).step ((HI.out.drew (n2 + nq)).rdr.move (tailSuf HI.out.rdr.suf) HN.out.1.symm) (keeps_set _ _ _ _) (by simp)
          obtain ⟨w3, hw3⟩ : ∃ w3, w3 = (wr.drewN (n2 + nq)).setCell ⟨rb, 1, none⟩ (.int .i64 ((k : Int) + 1)) := ⟨_, rfl⟩
          rw [← hw3] at hi3
          rw [← hw3]
          have HI3 := Lib.hid hi3
          have hcon := run_text hi3.row.rd
          clear hw3 hi3 c0 c1 c2 f1 t0 t1 t2
          go_wp2_with (fail)
          go_ret
          rw [HB.out]
          exact ⟨⟨_, rfl, rfl⟩, HI3.out.rdr, HI3.out.keep⟩
        · have j2 : (cv == 34) = false := by
            have : ¬ c.toNat = 34 := fun e => h2 (UInt8.toNat_inj.1 e)
            simp; omega
          by_cases h3 : c = 92
          · have HEE : Hid ((escaped (l'.length + 1) l').andThen (fun r l2 => textN n (out ++ encodeRune (r : Int)) l2) = RES) := Lib.hid (by rw [← HE.out]; simp only [textN]; rw [if_neg h1, if_neg h2, if_pos h3])
            have j3 : (cv == 92) = true := by rw [hcv, h3]; rfl
            have HC92 := Lib.hid h3
            clear hcv h1 h2 h3
            go_wp2_with (fail)
            refine HH.out.mono ?_
            rintro e w2 ⟨rfl, n2, rfl⟩
            go_wp2_with (fail)
            go_quiet (fail)
            have HI3 := Lib.hid (HI.out.drew (n2 + nq))
            have HES : Hid (Calls Tryz.prog 99 #[.pointer (some ⟨rb, 0, none⟩)] (wr.drewN (n2 + nq)) (ROut rb (.slice (some ⟨g, off, none⟩) bs.length cap0) bs (wr.drewN (n2 + nq)) VRune (escaped (l'.length + 1) l'))) := Lib.hid (by
              have := HI3.out.rdr
              rw [HC92.out] at this
              exact j_escaped this)
            clear c0 c1 c2 f1 t0 t1 t2
            go_wp2_with (fail)
            refine HES.out.mono ?_
            intro e w4 hp
            cases ho : escaped (l'.length + 1) l' with
            | bad p er =>
              rw [ho] at hp
              obtain ⟨rfl, hk⟩ := hp
              refine leave_panic (P := Tryz.prog) (fn := Tryz.f74) rfl ?_
              rw [← HEE.out, ho]
              exact ⟨rfl, HI3.out.keep.trans' hk⟩
            | ok x r =>
              rw [ho] at hp
              obtain ⟨⟨v, rfl, rfl⟩, hr, hk⟩ := hp
              have hfit := escaped_fits _ _ _ _ ho
              have HI4 := Lib.hid (HI3.out.step hr hk (by simp; omega))
              have HX := Lib.hid (escaped_lt ho)
              have HF := Lib.hid hfit
              have HE5 : Hid (textN n (out ++ encodeRune (x : Int)) r = RES) := Lib.hid (by rw [← HEE.out, ho]; rfl)
              have HA := Lib.hid (u_appendRune HI4.out.row HI4.out.big (by have := HI4.out.small; have := HI4.out.rdr.len; omega) x HX.out)
              clear hr hk ho hfit
              go_wp2_with (fail)
              refine HA.out.mono ?_
              rintro e w5 ⟨v', rfl, hrow, hk5⟩
              have HI5 : Hid (TextI w w5 rb (.slice (some ⟨g, off, none⟩) bs.length cap0) bs v' (out ++ encodeRune (x : Int)) r) := Lib.hid (HI4.out.more hrow hk5 (by
                have h4 := encode_le (x : Int)
                have h5 := HI3.out.small
                have h6 := HF.out.2
                rw [List.length_append]
                simp only [List.length_cons] at h5
                omega))
              obtain ⟨a', cap', rfl⟩ := hrow.shape
              clear hrow hk5
              go_wp2_with (fail)
              go_roundg n
              case measure => exact Nat.lt_succ_self n
              case rel => exact ⟨a', cap', _, r, by rw [List.length_append], Lib.hid (by have h1 := HG.out; have h2 := HF.out.2; simp only [List.length_cons] at h1; omega), HE5, HI5⟩
          · have j3 : (cv == 92) = false := by
              have : ¬ c.toNat = 92 := fun e => h3 (UInt8.toNat_inj.1 e)
              simp; omega
            have hk9 : k = bs.length - (c :: l').length := HN.out.2.1
            have hroom := HI.out.rdr.room _ _ _ rfl
            have hlen9 : bs.length - k = (c :: l').length := by have := suf_len HI.out.rdr.suf; omega
            have hdrop : bs.drop k = c :: l' := by rw [hk9]; exact (suf_drop HI.out.rdr.suf).symm
            have HSUB : Hid (∀ W, Rdr W rb (.slice (some ⟨g, off, none⟩) bs.length cap0) bs (c :: l') → ∀ q, RdAt byteKind W (.slice (some ⟨g, off + k, none⟩) (bs.length - k) q) (c :: l')) := Lib.hid fun W hW q => by
              have := hW.rd.sub (q := k) (m := bs.length - k) (by have := suf_len HI.out.rdr.suf; omega) (some ⟨g, off + k, none⟩) q (fun _ => rfl)
              rw [List.take_of_length_le (by simp), hdrop] at this
              exact this
            have HF : Hid (∀ W, Rdr W rb (.slice (some ⟨g, off, none⟩) bs.length cap0) bs (c :: l') → Calls Tryz.prog 100 #[.slice (some ⟨g, off + k, none⟩) (bs.length - k) (cap0 - k)] W fun e w' => e = .returned (.bool (!cutOff (c :: l'))) ∧ Below W.heap.size W w') := Lib.hid fun W hW => by
              have h1 := HSUB.out W hW (cap0 - k)
              rw [hlen9] at h1 ⊢
              exact u_fullRune h1 hW.tabs (by have := suf_len hW.suf; have := hW.len; omega)
            have HD : Hid (∀ W, Rdr W rb (.slice (some ⟨g, off, none⟩) bs.length cap0) bs (c :: l') → Calls Tryz.prog 101 #[.slice (some ⟨g, off + k, none⟩) (bs.length - k) (cap0 - k)] W fun e w' =>
                e = .returned (.tuple #[.int .i32 ((Lib.decodeGo (str (c :: l'))).1 : Int), .int .i64 ((Lib.decodeGo (str (c :: l'))).2 : Int)]) ∧ Below W.heap.size W w') := Lib.hid fun W hW => u_decode (HSUB.out W hW _) hlen9 hW.tabs
            have HTX : Hid (textN (n + 1) out (c :: l') = if cutOff (c :: l') then .bad 0 11 else if seqLen (c :: l') = 0 then .bad (l'.length + 1) 11 else textN n (out ++ (c :: l').take (seqLen (c :: l'))) ((c :: l').drop (seqLen (c :: l')))) := Lib.hid (by simp only [textN]; rw [if_neg h1, if_neg h2, if_neg h3])
            have i1 : (k : Int) ≤ (bs.length : Int) := by omega
            have i3 : (bs.length : Int) ≤ (cap0 : Int) := by omega
            have i2 : ¬ (cap0 = k) := by omega
            have HKL := Lib.hid (And.intro hk9 hlen9)
            have HRM := Lib.hid hroom
            obtain ⟨q, hq⟩ : ∃ q, q = cutOff (c :: l') := ⟨_, rfl⟩
            rw [← hq] at HF
            have HQ := Lib.hid hq
            clear hcv h1 h2 h3 hk9 hroom hlen9 hdrop hq
            go_wp2_with (fail)
            refine HH.out.mono ?_
            rintro e w2 ⟨rfl, n2, rfl⟩
            go_wp2_with (fail)
            go_quiet (fail)
            go_upto_region 4 with (fail)
            refine wp_region_still_tail 9 (by kernel_rfl) (by kernel_rfl) ?_
            have hi4 := HI.out.drew (n2 + nq + 1)
            obtain ⟨w4, hw4⟩ : ∃ w4, w4 = wr.drewN (n2 + nq + 1) := ⟨_, rfl⟩
            rw [show ({ heap := (wr.drewN (n2 + nq)).heap, tape := (wr.drewN (n2 + nq)).tape, drawn := (wr.drewN (n2 + nq)).drawn + 1, os := (wr.drewN (n2 + nq)).os, output := (wr.drewN (n2 + nq)).output } : World) = w4 from by rw [hw4]; rfl]
            rw [← hw4] at hi4
            have HI4 := Lib.hid hi4
            clear hw4 hi4 c0 c1 c2 f1 t0
            obtain ⟨-, -, k4, e4, c0, c1, -⟩ : ∃ (a : Option Addr) (cap k4 : Nat), k4 = k ∧ w4.cell? ⟨rb, 0, none⟩ = some (.slice (some ⟨g, off, none⟩) bs.length cap0) ∧ w4.cell? ⟨rb, 1, none⟩ = some (.int .i64 (k4 : Int)) ∧ True := by
              have hb := HI4.out.rdr.blk
              exact ⟨none, 0, k, rfl, blk_cell hb 0, by rw [HKL.out.1]; exact blk_cell hb 1, trivial⟩
            subst e4
            simp only [List.take_succ_cons, List.take_zero, List.drop_succ_cons, List.drop_zero]
            repeat still_step
            refine wpStill_nil ?_
            go_wp2_with (fail)
            refine (HF.out _ HI4.out.rdr).mono ?_
            rintro e w5 ⟨rfl, hb5⟩
            have HI5 := Lib.hid (HI4.out.below hb5)
            clear hb5 c0 c1
            cases q with
            | true =>
              have HB : Hid (RES = .bad 0 11) := Lib.hid (by rw [← HE.out, HTX.out, if_pos HQ.out.symm])
              have c0 : w5.cell? ⟨rb, 0, none⟩ = some (.slice (some ⟨g, off, none⟩) bs.length cap0) := blk_cell HI5.out.rdr.blk 0
              go_wp2_with (fail)
              refine (j_fail _ _ _ _).mono ?_
              rintro e w' ⟨rfl, rfl⟩
              refine leave_panic (P := Tryz.prog) (fn := Tryz.f74) rfl ?_
              rw [HB.out]
              exact ⟨rfl, HI5.out.keep⟩
            | false =>
              have HTY : Hid (RES = if seqLen (c :: l') = 0 then .bad (l'.length + 1) 11 else textN n (out ++ (c :: l').take (seqLen (c :: l'))) ((c :: l').drop (seqLen (c :: l')))) := Lib.hid (by rw [← HE.out, HTX.out, if_neg (by rw [← HQ.out]; decide)])
              go_upto_region 6 with (fail)
              have HDC := Lib.hid (decGo_ok (l := c :: l') (by simp))
              obtain ⟨dr, hdr⟩ : ∃ dr : Nat, dr = (Lib.decodeGo (str (c :: l'))).1 := ⟨_, rfl⟩
              obtain ⟨dk, hdk⟩ : ∃ dk : Nat, dk = (Lib.decodeGo (str (c :: l'))).2 := ⟨_, rfl⟩
              rw [← hdr, ← hdk] at HD
              have HDD := Lib.hid (And.intro hdr hdk)
              clear hdr hdk
              have HD2 : Hid (∀ W, Below w5.heap.size w5 W → Calls Tryz.prog 101 #[.slice (some ⟨g, off + k4, none⟩) (bs.length - k4) (cap0 - k4)] W fun e w' =>
                  e = .returned (.tuple #[.int .i32 (dr : Int), .int .i64 (dk : Int)]) ∧ (w'.cell? ⟨rb, 0, none⟩ = some (.slice (some ⟨g, off, none⟩) bs.length cap0) ∧ w'.cell? ⟨rb, 1, none⟩ = some (.int .i64 (k4 : Int))) ∧ Hid (TextI w w' rb (.slice (some ⟨g, off, none⟩) bs.length cap0) bs (.slice a out.length cap) out (c :: l'))) := Lib.hid fun W hW => by
                have hi6 := HI5.out.below hW
                refine (HD.out _ hi6.rdr).mono ?_
                rintro e w7 ⟨rfl, hb7⟩
                have hi7 := hi6.below hb7
                exact ⟨rfl, ⟨blk_cell hi7.rdr.blk 0, by have := blk_cell hi7.rdr.blk 1; rw [← HKL.out.1] at this; exact this⟩, Lib.hid hi7⟩
              have hb0 : Below w5.heap.size w5 w5.drew := (Below.refl _ _).drew
              have c0 : w5.cell? ⟨rb, 0, none⟩ = some (.slice (some ⟨g, off, none⟩) bs.length cap0) := blk_cell HI5.out.rdr.blk 0
              have c1 : w5.cell? ⟨rb, 1, none⟩ = some (.int .i64 (k4 : Int)) := by have := blk_cell HI5.out.rdr.blk 1; rw [← HKL.out.1] at this; exact this
              go_region_held3 (fun w' => w'.cell? ⟨rb, 0, none⟩ = some (.slice (some ⟨g, off, none⟩) bs.length cap0) ∧ w'.cell? ⟨rb, 1, none⟩ = some (.int .i64 (k4 : Int)))
                (first | go_keep | exact s1)
                (first
                  | (go_at_call 101; (with_reducible refine (HD2.out _ ?_).mono ?_); exact hb0; rintro e w7 ⟨rfl, s1, HI7⟩))
              clear c0 c1 hb0 HD2 HD
              by_cases hs0 : seqLen (c :: l') = 0
              · have HB : Hid (RES = .bad (l'.length + 1) 11) := Lib.hid (by rw [HTY.out, if_pos hs0])
                obtain ⟨rfl, rfl⟩ : dr = 65533 ∧ dk = 1 := by
                  have := HDC.out
                  unfold DecOk at this
                  rw [if_pos hs0] at this
                  have h1 := HDD.out.1; have h2 := HDD.out.2
                  rw [this] at h1 h2
                  exact ⟨h1, h2⟩
                go_wp2_with (fail)
                refine (j_wrong HI7.out.rdr).mono ?_
                rintro e w' ⟨rfl, rfl⟩
                refine leave_panic (P := Tryz.prog) (fn := Tryz.f74) rfl ?_
                rw [HB.out]
                exact ⟨rfl, HI7.out.keep⟩
              · have HB : Hid (RES = textN n (out ++ (c :: l').take (seqLen (c :: l'))) ((c :: l').drop (seqLen (c :: l')))) := Lib.hid (by rw [HTY.out, if_neg hs0])
                obtain ⟨hdk, hdd⟩ : dk = seqLen (c :: l') ∧ ¬ (dr = 65533 ∧ dk = 1) := by
                  have := HDC.out
                  unfold DecOk at this
                  rw [if_neg hs0] at this
                  have h1 := HDD.out.1; have h2 := HDD.out.2
                  exact ⟨h2.trans this.1, fun ⟨e1, e2⟩ => this.2 (Prod.ext (h1.symm.trans e1) (h2.symm.trans e2))⟩
                have hle := seqLen_le (c :: l')
                have hle4 := seqLen_le4 (c :: l')
                have hdk1 : 1 ≤ dk ∧ dk ≤ 4 ∧ k4 + dk ≤ bs.length := by have := HKL.out.2; omega
                obtain ⟨d1, d2, d3⟩ := hdk1
                have HLE := Lib.hid hle
                have HDK := Lib.hid hdk
                have hcase : (((dr : Nat) : Int) == 65533) = false ∨ ((((dr : Nat) : Int) == 65533) = true ∧ (((dk : Nat) : Int) == 1) = false) := by
                  by_cases e : dr = 65533
                  · right; exact ⟨by rw [e]; rfl, by have : ¬ dk = 1 := fun e2 => hdd ⟨e, e2⟩; simp; omega⟩
                  · left; simp; omega
                have b1 : (k4 : Int) + (dk : Int) ≤ (bs.length : Int) := by omega
                have b2 : (0 : Int) ≤ (dk : Int) := by omega
                obtain ⟨tt, hto⟩ : ∃ tt : Nat, tt = k4 + dk := ⟨_, rfl⟩
                have HTO := Lib.hid hto
                have b4 : (tt : Int) ≤ (cap0 : Int) := by omega
                have i0 : (k4 : Int) ≤ (tt : Int) := by omega
                have b3 : IntKind.i64.wrap ((k4 : Int) + (dk : Int)) = (tt : Int) := by rw [IntWalk.i64_in _ (by have := HI7.out.rdr.len; omega)]; omega
                clear hle hle4 hdk hdd hs0 b1 hto
                have c1 : w7.cell? ⟨rb, 1, none⟩ = some (.int .i64 (k4 : Int)) := by have := blk_cell HI7.out.rdr.blk 1; rw [← HKL.out.1] at this; exact this
                rcases hcase with hca | ⟨hca, hcb⟩
                all_goals
                  go_upto_region 9 with (fail)
                  refine wp_region_still_tail 16 (by kernel_rfl) (by kernel_rfl) ?_
                  have hi8 := HI7.out.drew 1
                  obtain ⟨w8, hw8⟩ : ∃ w8, w8 = w7.drewN 1 := ⟨_, rfl⟩
                  rw [show ({ heap := w7.heap, tape := w7.tape, drawn := w7.drawn + 1, os := w7.os, output := w7.output } : World) = w8 from by rw [hw8]; rfl]
                  rw [← hw8] at hi8
                  have HI8 := Lib.hid hi8
                  clear hw8 hi8 c1
                  have c0 : w8.cell? ⟨rb, 0, none⟩ = some (.slice (some ⟨g, off, none⟩) bs.length cap0) := blk_cell HI8.out.rdr.blk 0
                  have c1 : w8.cell? ⟨rb, 1, none⟩ = some (.int .i64 (k4 : Int)) := by have := blk_cell HI8.out.rdr.blk 1; rw [← HKL.out.1] at this; exact this
                  simp only [List.take_succ_cons, List.take_zero, List.drop_succ_cons, List.drop_zero]
                  repeat still_step
                  refine wpStill_nil ?_
                  obtain ⟨ys, hys⟩ : ∃ ys, ys = (c :: l').take (seqLen (c :: l')) := ⟨_, rfl⟩
                  have hyl : ys.length = tt - k4 := by rw [hys, List.length_take, HTO.out]; have := HLE.out; have := HDK.out; omega
                  have hrd : RdAt byteKind w8 (.slice (some ⟨g, off + k4, none⟩) ys.length (cap0 - k4)) ys := by
                    have h9 := HI8.out.rdr.rd.sub (q := k4) (m := tt - k4) (by have := HTO.out; omega) (some ⟨g, off + k4, none⟩) (cap0 - k4) (fun _ => rfl)
                    have h10 : (bs.drop k4).take (tt - k4) = ys := by
                      rw [HKL.out.1, ← suf_drop HI8.out.rdr.suf, hys]
                      congr 1
                      rw [← HKL.out.1]; have := HTO.out; have := HDK.out; omega
                    rw [h10] at h9
                    rw [hyl]; exact h9
                  clear c1
                  obtain ⟨v', w9, hrun, hrow, hk9⟩ := run_append_row HI8.out.row HI8.out.big hrd (by intro e; rw [e] at hyl; simp at hyl; have := HTO.out; omega) (by have := HI8.out.small; have := HI8.out.rdr.len; have := HTO.out; omega) 26
                  rw [hyl] at hrun
                  obtain ⟨a', cap', rfl⟩ := hrow.shape
                  have hr9 : Rdr w9 rb (.slice (some ⟨g, off, none⟩) bs.length cap0) bs (c :: l') := HI8.out.rdr.keeps hk9 (fun e => by have e : w.heap.size ≤ rb := e; have := HI8.out.rlt; omega) (fun g hg hb e => by have e : w.heap.size ≤ g := e; have := HI8.out.glt g hg hb; omega) (fun k e => by have e : w.heap.size ≤ k := e; have := HI8.out.rdr.big; have := HI8.out.rlt; omega)
                  have hsuf : (c :: l').drop (seqLen (c :: l')) <:+ bs := (List.drop_suffix _ _).trans hr9.suf
                  have hplace : (tt : Int) = ((bs.length - ((c :: l').drop (seqLen (c :: l'))).length : Nat) : Int) := by
                    rw [List.length_drop]
                    have h1 := HTO.out; have h2 := HDK.out; have h3 := HKL.out; have h4 := HLE.out; have h5 := suf_len hr9.suf
                    omega
                  have hfin : TextI w (w9.setCell ⟨rb, 1, none⟩ (.int .i64 (tt : Int))) rb (.slice (some ⟨g, off, none⟩) bs.length cap0) bs (.slice a' (out ++ ys).length cap') (out ++ ys) ((c :: l').drop (seqLen (c :: l'))) := by
                    refine ⟨hr9.move hsuf hplace, (HI8.out.keep.trans hk9 (fun k hk e => by have e : w.heap.size ≤ k := e; omega)).trans' (keeps_set _ _ _ _), hrow.keeps (keeps_set _ rb 1 _) (fun g hg e => by have e : g = rb := e; have := HI8.out.rlt; omega), ?_, HI8.out.rlt, HI8.out.glt⟩
                    have h5 := HI8.out.small
                    have h1 := HTO.out; have h2 := HDK.out; have h4 := HLE.out
                    rw [List.length_append, hyl, List.length_drop]
                    omega
                  have HFIN := Lib.hid hfin
                  have c1 : w9.cell? ⟨rb, 1, none⟩ = some (.int .i64 (k4 : Int)) := by have := blk_cell hr9.blk 1; rw [← HKL.out.1] at this; exact this
                  have f1 : w9.frozen? ⟨rb, 1, none⟩ = false := blk_free hr9.blk 1
                  have HYS := Lib.hid hys
                  have b5 : wrap64 ((k4 : Int) + (dk : Int)) = (tt : Int) := by have h1 := HTO.out; have h2 := HI8.out.rdr.len; have h3 := hplace; unfold wrap64; omega
                  clear hrow hk9 hrd hyl c0 hr9 hsuf hplace hfin hys b3
                  go_wp2_with (at_builtin; refine wpList_append_run rfl (.tmp 50) (.tmp 65) 26 rfl _ _ rfl rfl _ _ hrun ?_)
                  go_roundg n
                  case measure => exact Nat.lt_succ_self n
                  case rel => exact ⟨a', cap', _, _, by rw [List.length_append], Lib.hid (by have h1 := HG.out; have h2 := HDK.out; simp only [List.length_cons, List.length_drop] at h1 ⊢; omega), by rw [HYS.out]; exact Lib.hid HB.out.symm, HFIN⟩
end
end Go.Proofs.YthjcolehccbihaaGreatDoor
