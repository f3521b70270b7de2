/- The walk of a glue's Put where a part is taken. -/
import Derived.Test.YtdmohidkighajaaGp
namespace Go.Proofs.Ytdmohidkighajaa
open Go.RowKit
set_option linter.unusedVariables false
set_option linter.unusedSimpArgs false

/-- 'b[a:]' and the copy of t into it. -/
theorem BAt.copy {T : TypeId} {w : World} {g h cap : Nat} {b : List UInt8} {cs : List Value} (k : BAt T w g h cap b cs) (a : Int) (t : ByteArray) (h0 : 0 ≤ a) (h1 : a + t.size ≤ b.length) :
    ∃ A' : Option Addr, (∀ W : World, (Instr.slice 23 (.slice (some ⟨h, 0, none⟩) b.length cap) (some (.int .i64 a)) none none).run Try.prog W = .ok (.slice A' (b.length - a.toNat) (cap - a.toNat)) W) ∧
      ∀ W : World, Only g h w W → W.heap = w.heap → ∃ w', (Builtin.copy_ #[23, 9] 3 #[.slice A' (b.length - a.toNat) (cap - a.toNat), .string t]).run Try.prog W = .ok (goInt t.size) w' ∧ BAt T w' g h cap (pasteL b a.toNat t.data.toList) cs ∧ Only g h w w' := by
  have hs5 : (Try.prog.info? 5).map (·.size) = some 1 := by kernel_rfl
  refine ⟨_, cut_l 23 5 Try.underlying23 hs5 h b.length cap a h0 (by omega), fun W hO hW => ⟨_, copy_at 23 9 3 5 Try.underlying23 hs5 h b.length cap a.toNat t (by omega) k.le W (fun j hj => ?_) (fun j hj => ?_), k.paste _ _ (by rw [size_data]; omega) hW, hO.cells _ _⟩⟩
  · rw [World.cell?_of_block (w := w) (by rw [hW]), k.cell j hj]; rfl
  · rw [World.frozen?_of_block (w := w) (by rw [hW])]; exact k.free j hj

theorem BAt.c0_len {T : TypeId} {w : World} {g h cap n : Nat} {b : List UInt8} {cs : List Value} (k : BAt T w g h cap b cs) (hl : b.length = n) : w.cell? ⟨g, 0, none⟩ = some (.slice (some ⟨h, 0, none⟩) n cap) := by subst hl; exact k.c 0

/-- The whole value as a string. -/
theorem BAt.str {T : TypeId} {w : World} {g h cap : Nat} {b : List UInt8} {cs : List Value} (k : BAt T w g h cap b cs) : (convert 23 9 (.slice (some ⟨h, 0, none⟩) b.length cap)).run Try.prog w = .ok (.string (ofL b)) w := by
  have := run_convert_bytes_arg (P := Try.prog) w 23 5 Try.underlying23 Try.underlying5 h 0 b.length cap (numsOf b) (by simp [numsOf]) (fun i hi => by
    rw [Nat.zero_add, k.cell i hi]
    simp [numsOf, List.getD, hi]) 9 Try.underlying9
  rw [strOf_nums] at this
  exact this

/-- The glue behind a part. -/
def Gl.took (s : Gl) (f : Fr) : Gl := { s with value := pasteL s.value (f.part * 16).toNat f.bytes.data.toList, came := setAt s.came f.part, n := s.n + 1 }

theorem fits_at {n : Int} {f : Fr} (h : fitsP n f) : pAt n f.part = f.part * 16 ∧ 0 ≤ f.part * 16 ∧ f.part * 16 + f.bytes.size ≤ n := by
  have h0 := fits_part h
  obtain ⟨h1, h2, h3⟩ := h
  have hb := nParts_le n
  unfold pLen at h2 h3
  unfold pAt
  split at h2
  · rename_i hp
    rw [if_pos hp] at h3
    rw [if_pos hp]
    have hn : 1 ≤ n ∧ n ≤ 64 := by
      apply Classical.byContradiction
      intro hh
      rw [nParts_no hh] at hp
      omega
    rw [nParts_yes hn.1 hn.2] at hp
    omega
  · omega

theorem Gl.took_len {s : Gl} {f : Fr} (h : fitsP s.value.length f) : (s.took f).value.length = s.value.length := by
  have := fits_at h
  exact pasteL_length (by rw [size_data]; omega)

/-- The box of a frame, wherever the world went. -/
structure FBk (w1 : World) (p : Nat) (f : Fr) : Prop where
  blk : w1.heap[p]? = some (.cells (frV f) 36 (0, 0))
theorem FBk.lt {w1 : World} {p : Nat} {f : Fr} (b : FBk w1 p f) : p < w1.heap.size := (Array.getElem?_eq_some_iff.1 b.blk).1
theorem FBk.c {w1 : World} {p : Nat} {f : Fr} (b : FBk w1 p f) (i : Nat) : w1.cell? ⟨p, i, none⟩ = (frV f)[i]? := blk_cell b.blk i
theorem FBk.part {w1 : World} {p : Nat} {f : Fr} (b : FBk w1 p f) : w1.cell? ⟨p, 16, none⟩ = some (.int .u8 f.part) := b.c 16
theorem FBk.parts {w1 : World} {p : Nat} {f : Fr} (b : FBk w1 p f) : w1.cell? ⟨p, 17, none⟩ = some (.int .u8 f.parts) := b.c 17
theorem FBk.bytes {w1 : World} {p : Nat} {f : Fr} (b : FBk w1 p f) : w1.cell? ⟨p, 18, none⟩ = some (.string f.bytes) := b.c 18
theorem FBk.vi {w1 : World} {p : Nat} {f : Fr} (b : FBk w1 p f) : w1.cell? ⟨p, 14, none⟩ = some (.int .u16 f.vi) := b.c 14
theorem FBk.vs {w1 : World} {p : Nat} {f : Fr} (b : FBk w1 p f) : w1.cell? ⟨p, 15, none⟩ = some (.int .u32 f.vs) := b.c 15
theorem FBk.drewN {w1 : World} {p : Nat} {f : Fr} (b : FBk w1 p f) (n : Nat) : FBk (w1.drewN n) p f := ⟨b.blk⟩
theorem FBk.drew {w1 : World} {p : Nat} {f : Fr} (b : FBk w1 p f) : FBk w1.drew p f := ⟨b.blk⟩
theorem FBk.only {w1 w2 : World} {p g h : Nat} {f : Fr} (b : FBk w1 p f) (o : Only g h w1 w2) (h1 : p ≠ g) (h2 : p ≠ h) : FBk w2 p f := ⟨(o.block p b.lt h1 h2).trans b.blk⟩

/-- The glue that begins a frame's version. -/
def Gl.start (s : Gl) (f : Fr) : Gl := { s with vi := f.vi, vs := f.vs, is := true, came := 0, n := 0 }

theorem bit_zero {p : Int} (h : 0 ≤ p ∧ p < 4) : bitAt 0 p = 0 := by
  have := (bit_facts 0 ⟨p.toNat, by omega⟩).2.2.2.1
  rwa [show (((⟨p.toNat, by omega⟩ : Fin 4).val : Nat) : Int) = p by simp; omega] at this

set_option maxHeartbeats 400000 in
set_option maxRecDepth 20000 in
theorem put_same_more {w : World} {g h cap : Nat} {s : Gl} (k : GAt w g h cap s) (f : Fr) (ok : FrOk f) (hk : f.kind = 4) (hf : fitsP s.value.length f) (hi : s.is = true) (hc : cmpV f.vi f.vs s.vi s.vs = 0) (hb : bitAt s.came f.part = 0) (hn : 0 ≤ s.n ∧ s.n ≤ 1000) (hm : s.n + 1 < f.parts) :
    Calls Try.prog 31 #[.pointer (some ⟨g, 0, none⟩), .agg (frV f)] w fun e w' => e = putR ⟨#[]⟩ false 0 ∧ GAt w' g h cap (s.took f) ∧ Only g h w w' := by
  have hgl := k.glt
  have hhl := k.lt
  have NE := hide (show w.heap.size ≠ g ∧ w.heap.size ≠ h from ⟨by omega, by omega⟩)
  have FB := hide (fbox w f)
  have KB := hide (k.boxed f)
  have OK := hide ok
  have HF := hide hf
  have c0 := (fbox w f).kind
  rw [hk] at c0
  clear k ok hf hk
  go_enter Try.func31, Try.ntmps31
  go_wp2_with (first
    | (go_at_call 41; refine (fits_any KB.out f OK.out true ⟨fun _ => HF.out, fun _ => rfl⟩).mono ?_; rintro e w2 ⟨rfl, b2⟩)
    | (refine wpList_load_row rfl 36 _ rfl _ rfl 36 (frV f) (0, 0) _ FB.out.blk Try.underlying36 rfl (by kernel_rfl) ?_))
  have lb := FB.out.blk
  have k2 := GAt.below2 KB.out b2
  have fb2 : FBox w w2 w.heap.size f := ⟨(b2.block _ (Array.getElem?_eq_some_iff.1 lb).1).trans lb, FB.out.bw.trans (b2.mono (by simp)), rfl⟩
  clear b2 FB KB c0 lb
  generalize w.heap.size = p at fb2 ⊢
  have a1 := fb2.vi
  have a2 := fb2.vs
  have a3 := GAt.c1 k2
  have a4 := GAt.c2 k2
  have FB := hide fb2; have KB := hide k2
  clear fb2 k2
  go_region_held3 (fun w' => w'.cell? ⟨p, 14, none⟩ = some (.int .u16 f.vi) ∧ w'.cell? ⟨p, 15, none⟩ = some (.int .u32 f.vs) ∧ w'.cell? ⟨g, 1, none⟩ = some (.int .u16 s.vi) ∧ w'.cell? ⟨g, 2, none⟩ = some (.int .u32 s.vs)) (first | exact ⟨a1, a2, a3, a4⟩ | exact ⟨q1, q2, q3, q4⟩)
    (first
      | (go_at_call 42; refine (vcmp_any f.vi f.vs s.vi s.vs _).mono ?_; rintro e w3 ⟨rfl, b3⟩; have q1 := (FB.out.drew.below b3).vi; have q2 := (FB.out.drew.below b3).vs; have q3 := GAt.c1 (GAt.below3 KB.out b3); have q4 := GAt.c2 (GAt.below3 KB.out b3)))
  have fb3 := FB.out.drew.below b3
  have k3 := GAt.below3 KB.out b3
  clear q1 q2 q3 q4 a1 a2 a3 a4 b3 FB KB
  have i3 := k3.c3
  rw [hi] at i3
  have HB := hide hb
  have HN := hide hn
  clear hb hn hi
  have sz := fb3.sz
  have kz := k3
  have fz : FBk w3 p f := ⟨fb3.blk⟩
  have oz : Only g h w w3 := ⟨fb3.bw.os, fb3.bw.tape, fb3.bw.output, fb3.bw.size, fun k hk _ _ => fb3.bw.block k (by omega)⟩
  clear fb3 k3
  rw [sz] at NE
  have HS := hide sz
  clear sz hgl hhl
  generalize w3 = wz at kz fz oz i3 ⊢
  have i4 := kz.c4
  have i5 := fz.part
  have KZ := hide kz; have FZ := hide fz; have OZ := hide oz
  clear kz fz oz
  have HP := hide (fits_part HF.out)
  have p0 := HP.out.1
  have p1 := HP.out.2
  have hb2 : bits .and .u8 (s.came / 2 ^ f.part.toNat) 1 = 0 := HB.out
  go_wp2
  go_quiet (fail)
  have kz := KZ.out.drewN nq
  have fz := FZ.out.drewN nq
  have oz := OZ.out.drewN nq
  clear KZ FZ OZ i4 i5
  generalize wz.drewN nq = wy at kz fz oz ⊢
  have i0 := kz.c0
  have i5 := fz.part
  have KZ := hide kz; have FZ := hide fz; have OZ := hide oz
  clear kz fz oz
  have HA := hide (fits_at HF.out)
  go_wp2_with fail
  go_quiet ((go_at_call 40; exact quiet_left (piece_any _ _ (by omega) _)))
  have kz := KZ.out.drewN nq
  have fz := FZ.out.drewN nq
  have oz := OZ.out.drewN nq
  clear KZ FZ OZ i0 i5
  generalize wy.drewN nq = wx at kz fz oz ⊢
  rw [show pAt (s.value.length : Int) f.part = f.part * 16 from HA.out.1]
  generalize hq16 : f.part * 16 = a16
  have q0 : 0 ≤ a16 := by rw [← hq16]; exact HA.out.2.1
  have q1 : a16 + f.bytes.size ≤ (s.value.length : Int) := by rw [← hq16]; exact HA.out.2.2
  have q2 : a16 ≤ (s.value.length : Int) := by omega
  have HQ := hide hq16
  clear hq16
  obtain ⟨A', hcut, hcopy⟩ := BAt.copy kz a16 f.bytes q0 q1
  have HC := hide hcopy
  have i0 := kz.c0
  have i6 := fz.bytes
  have KZ := hide kz; have FZ := hide fz; have OZ := hide oz
  clear kz fz oz hcopy
  go_wp2_with fail
  go_region_held3 (fun w' => w'.cell? ⟨g, 0, none⟩ = some (.slice (some ⟨h, 0, none⟩) s.value.length cap) ∧ w'.cell? ⟨p, 18, none⟩ = some (.string f.bytes)) (first | exact ⟨i0, i6⟩ | exact ⟨j0, j6⟩)
    (first
      | (refine step_copy_ex rfl (.tmp 76) (.tmp 78) 23 9 rfl _ _ (by simp [Act.eval, Act.put]) (by simp [Act.eval, Act.put]) (HC.out _ ((Only.refl g h _).drewN 1) rfl) ?_; rintro wv ⟨kv, ov⟩; have j0 : wv.cell? ⟨g, 0, none⟩ = some (.slice (some ⟨h, 0, none⟩) s.value.length cap) := BAt.c0_len kv (pasteL_length (by have := size_data f.bytes; omega)); have j6 := (FZ.out.only ov NE.out.1 NE.out.2).bytes))
  clear j0 j6
  have kv : GAt wv g h cap { s with value := pasteL s.value a16.toNat f.bytes.data.toList } := kv
  have fz : FBk wv p f := FZ.out.only ov (NE.out.1) (NE.out.2)
  have oz := OZ.out.trans ov
  clear KZ FZ OZ i0 i6 ov
  have i4 := kv.c4
  have g4 := kv.f 4
  have i5 := fz.part
  have KZ := hide kv; have FZ := hide fz; have OZ := hide oz
  clear kv fz oz
  have hset : bits .or .u8 s.came (2 ^ f.part.toNat % 256) = setAt s.came f.part := by unfold setAt; rw [IntKind.wrap_u8]; simp
  go_wp2_with fail
  go_region
  have kz : GAt (wv.setCell ⟨g, 4, none⟩ (.int .u8 (setAt s.came f.part))).drew g h cap { s with value := pasteL s.value a16.toNat f.bytes.data.toList, came := setAt s.came f.part } := BAt.drew (KZ.out.set 3 _)
  have oz : Only g h w (wv.setCell ⟨g, 4, none⟩ (.int .u8 (setAt s.came f.part))).drew := (OZ.out.set g 4 _ (.inl rfl)).drewN 1
  have fz : FBk (wv.setCell ⟨g, 4, none⟩ (.int .u8 (setAt s.came f.part))).drew p f := ⟨(Below.heap_setCell _ _ _ _ NE.out.1).trans FZ.out.blk⟩
  clear KZ FZ OZ i4 g4 i5 hset
  generalize (wv.setCell ⟨g, 4, none⟩ (.int .u8 (setAt s.came f.part))).drew = wu at kz fz oz ⊢
  have i5 := kz.c5
  have g5 := kz.f 5
  have n0 := HN.out.1
  have n1 := HN.out.2
  have KZ := hide kz; have FZ := hide fz; have OZ := hide oz
  clear kz fz oz
  go_wp2_with fail
  have kz : GAt (wu.setCell ⟨g, 5, none⟩ (.int .i64 (s.n + 1))) g h cap (s.took f) := by
    have := KZ.out.set 4 (.int .i64 (s.n + 1))
    rw [← HQ.out] at this
    exact this
  have oz : Only g h w (wu.setCell ⟨g, 5, none⟩ (.int .i64 (s.n + 1))) := OZ.out.set g 5 _ (.inl rfl)
  have fz : FBk (wu.setCell ⟨g, 5, none⟩ (.int .i64 (s.n + 1))) p f := ⟨(Below.heap_setCell _ _ _ _ NE.out.1).trans FZ.out.blk⟩
  clear KZ FZ OZ i5 g5
  generalize wu.setCell ⟨g, 5, none⟩ (.int .i64 (s.n + 1)) = wt at kz fz oz ⊢
  have i5 : wt.cell? ⟨g, 5, none⟩ = some (.int .i64 (s.n + 1)) := kz.c5
  have i6 := fz.parts
  have t0 := OK.out.parts.1
  have t1 := OK.out.parts.2
  have KZ := hide kz; have OZ := hide oz
  clear kz fz oz
  go_quiet (fail)
  go_wp2
  go_ret3
  exact ⟨rfl, KZ.out.drewN nq, OZ.out.drewN nq⟩

set_option maxHeartbeats 400000 in
set_option maxRecDepth 20000 in
theorem put_fresh_more {w : World} {g h cap : Nat} {s : Gl} (k : GAt w g h cap s) (f : Fr) (ok : FrOk f) (hk : f.kind = 4) (hf : fitsP s.value.length f) (hi : s.is = false) (hm : (s.start f).n + 1 < f.parts) :
    Calls Try.prog 31 #[.pointer (some ⟨g, 0, none⟩), .agg (frV f)] w fun e w' => e = putR ⟨#[]⟩ false 0 ∧ GAt w' g h cap ((s.start f).took f) ∧ Only g h w w' := by
  have hgl := k.glt
  have hhl := k.lt
  have NE := hide (show w.heap.size ≠ g ∧ w.heap.size ≠ h from ⟨by omega, by omega⟩)
  have FB := hide (fbox w f)
  have KB := hide (k.boxed f)
  have OK := hide ok
  have HF := hide hf
  have c0 := (fbox w f).kind
  rw [hk] at c0
  clear k ok hf hk
  go_enter Try.func31, Try.ntmps31
  go_wp2_with (first
    | (go_at_call 41; refine (fits_any KB.out f OK.out true ⟨fun _ => HF.out, fun _ => rfl⟩).mono ?_; rintro e w2 ⟨rfl, b2⟩)
    | (refine wpList_load_row rfl 36 _ rfl _ rfl 36 (frV f) (0, 0) _ FB.out.blk Try.underlying36 rfl (by kernel_rfl) ?_))
  have lb := FB.out.blk
  have k2 := GAt.below2 KB.out b2
  have fb2 : FBox w w2 w.heap.size f := ⟨(b2.block _ (Array.getElem?_eq_some_iff.1 lb).1).trans lb, FB.out.bw.trans (b2.mono (by simp)), rfl⟩
  clear b2 FB KB c0 lb
  generalize w.heap.size = p at fb2 ⊢
  have a1 := fb2.vi
  have a2 := fb2.vs
  have a3 := GAt.c1 k2
  have a4 := GAt.c2 k2
  have FB := hide fb2; have KB := hide k2
  clear fb2 k2
  go_region_held3 (fun w' => w'.cell? ⟨p, 14, none⟩ = some (.int .u16 f.vi) ∧ w'.cell? ⟨p, 15, none⟩ = some (.int .u32 f.vs) ∧ w'.cell? ⟨g, 1, none⟩ = some (.int .u16 s.vi) ∧ w'.cell? ⟨g, 2, none⟩ = some (.int .u32 s.vs)) (first | exact ⟨a1, a2, a3, a4⟩ | exact ⟨q1, q2, q3, q4⟩)
    (first
      | (go_at_call 42; refine (vcmp_any f.vi f.vs s.vi s.vs _).mono ?_; rintro e w3 ⟨rfl, b3⟩; have q1 := (FB.out.drew.below b3).vi; have q2 := (FB.out.drew.below b3).vs; have q3 := GAt.c1 (GAt.below3 KB.out b3); have q4 := GAt.c2 (GAt.below3 KB.out b3)))
  have fb3 := FB.out.drew.below b3
  have k3 := GAt.below3 KB.out b3
  clear q1 q2 q3 q4 a1 a2 a3 a4 b3 FB KB
  have hc := hi
  have i3 := k3.c3
  rw [hi] at i3
  clear hi
  have sz := fb3.sz
  have kz := k3
  have fz : FBk w3 p f := ⟨fb3.blk⟩
  have oz : Only g h w w3 := ⟨fb3.bw.os, fb3.bw.tape, fb3.bw.output, fb3.bw.size, fun k hk _ _ => fb3.bw.block k (by omega)⟩
  clear fb3 k3
  rw [sz] at NE
  have HS := hide sz
  clear sz hgl hhl
  generalize w3 = wz at kz fz oz i3 ⊢
  have a1 := fz.vi
  have a2 := fz.vs
  have KZ := hide kz; have FZ := hide fz; have OZ := hide oz
  clear kz fz oz
  go_wp2_with (go_at_call 43; refine (begin_any KZ.out f.vi f.vs).mono ?_; rintro e w4 ⟨rfl, k4, o4⟩)
  have kz : GAt w4 g h cap (s.start f) := k4
  have fz := FZ.out.only o4 NE.out.1 NE.out.2
  have oz := OZ.out.trans o4
  clear KZ FZ OZ k4 o4 a1 a2 i3 hc
  have HB := hide (show bitAt (s.start f).came f.part = 0 from bit_zero (fits_part HF.out))
  have HN := hide (show 0 ≤ (s.start f).n ∧ (s.start f).n ≤ 1000 from ⟨by simp [Gl.start], by simp [Gl.start]⟩)
  generalize w4 = wz at kz fz oz ⊢
  have i4 := kz.c4
  have i5 := fz.part
  have KZ := hide kz; have FZ := hide fz; have OZ := hide oz
  clear kz fz oz
  have HP := hide (fits_part HF.out)
  have p0 := HP.out.1
  have p1 := HP.out.2
  have hb2 : bits .and .u8 ((s.start f).came / 2 ^ f.part.toNat) 1 = 0 := HB.out
  go_wp2
  go_quiet (fail)
  have kz := KZ.out.drewN nq
  have fz := FZ.out.drewN nq
  have oz := OZ.out.drewN nq
  clear KZ FZ OZ i4 i5
  generalize wz.drewN nq = wy at kz fz oz ⊢
  have i0 := kz.c0
  have i5 := fz.part
  have KZ := hide kz; have FZ := hide fz; have OZ := hide oz
  clear kz fz oz
  have HA := hide (fits_at HF.out)
  go_wp2_with fail
  go_quiet ((go_at_call 40; exact quiet_left (piece_any _ _ (by omega) _)))
  have kz := KZ.out.drewN nq
  have fz := FZ.out.drewN nq
  have oz := OZ.out.drewN nq
  clear KZ FZ OZ i0 i5
  generalize wy.drewN nq = wx at kz fz oz ⊢
  rw [show pAt ((s.start f).value.length : Int) f.part = f.part * 16 from HA.out.1]
  generalize hq16 : f.part * 16 = a16
  have q0 : 0 ≤ a16 := by rw [← hq16]; exact HA.out.2.1
  have q1 : a16 + f.bytes.size ≤ ((s.start f).value.length : Int) := by rw [← hq16]; exact HA.out.2.2
  have q2 : a16 ≤ ((s.start f).value.length : Int) := by omega
  have HQ := hide hq16
  clear hq16
  obtain ⟨A', hcut, hcopy⟩ := BAt.copy kz a16 f.bytes q0 q1
  have HC := hide hcopy
  have i0 := kz.c0
  have i6 := fz.bytes
  have KZ := hide kz; have FZ := hide fz; have OZ := hide oz
  clear kz fz oz hcopy
  go_wp2_with fail
  go_region_held3 (fun w' => w'.cell? ⟨g, 0, none⟩ = some (.slice (some ⟨h, 0, none⟩) (s.start f).value.length cap) ∧ w'.cell? ⟨p, 18, none⟩ = some (.string f.bytes)) (first | exact ⟨i0, i6⟩ | exact ⟨j0, j6⟩)
    (first
      | (refine step_copy_ex rfl (.tmp 76) (.tmp 78) 23 9 rfl _ _ (by simp [Act.eval, Act.put]) (by simp [Act.eval, Act.put]) (HC.out _ ((Only.refl g h _).drewN 1) rfl) ?_; rintro wv ⟨kv, ov⟩; have j0 : wv.cell? ⟨g, 0, none⟩ = some (.slice (some ⟨h, 0, none⟩) (s.start f).value.length cap) := BAt.c0_len kv (pasteL_length (by have := size_data f.bytes; omega)); have j6 := (FZ.out.only ov NE.out.1 NE.out.2).bytes))
  clear j0 j6
  have kv : GAt wv g h cap { (s.start f) with value := pasteL (s.start f).value a16.toNat f.bytes.data.toList } := kv
  have fz : FBk wv p f := FZ.out.only ov (NE.out.1) (NE.out.2)
  have oz := OZ.out.trans ov
  clear KZ FZ OZ i0 i6 ov
  have i4 := kv.c4
  have g4 := kv.f 4
  have i5 := fz.part
  have KZ := hide kv; have FZ := hide fz; have OZ := hide oz
  clear kv fz oz
  have hset : bits .or .u8 (s.start f).came (2 ^ f.part.toNat % 256) = setAt (s.start f).came f.part := by unfold setAt; rw [IntKind.wrap_u8]; simp
  go_wp2_with fail
  go_region
  have kz : GAt (wv.setCell ⟨g, 4, none⟩ (.int .u8 (setAt (s.start f).came f.part))).drew g h cap { (s.start f) with value := pasteL (s.start f).value a16.toNat f.bytes.data.toList, came := setAt (s.start f).came f.part } := BAt.drew (KZ.out.set 3 _)
  have oz : Only g h w (wv.setCell ⟨g, 4, none⟩ (.int .u8 (setAt (s.start f).came f.part))).drew := (OZ.out.set g 4 _ (.inl rfl)).drewN 1
  have fz : FBk (wv.setCell ⟨g, 4, none⟩ (.int .u8 (setAt (s.start f).came f.part))).drew p f := ⟨(Below.heap_setCell _ _ _ _ NE.out.1).trans FZ.out.blk⟩
  clear KZ FZ OZ i4 g4 i5 hset
  generalize (wv.setCell ⟨g, 4, none⟩ (.int .u8 (setAt (s.start f).came f.part))).drew = wu at kz fz oz ⊢
  have i5 := kz.c5
  have g5 := kz.f 5
  have n0 := HN.out.1
  have n1 := HN.out.2
  have KZ := hide kz; have FZ := hide fz; have OZ := hide oz
  clear kz fz oz
  go_wp2_with fail
  have kz : GAt (wu.setCell ⟨g, 5, none⟩ (.int .i64 ((s.start f).n + 1))) g h cap ((s.start f).took f) := by
    have := KZ.out.set 4 (.int .i64 ((s.start f).n + 1))
    rw [← HQ.out] at this
    exact this
  have oz : Only g h w (wu.setCell ⟨g, 5, none⟩ (.int .i64 ((s.start f).n + 1))) := OZ.out.set g 5 _ (.inl rfl)
  have fz : FBk (wu.setCell ⟨g, 5, none⟩ (.int .i64 ((s.start f).n + 1))) p f := ⟨(Below.heap_setCell _ _ _ _ NE.out.1).trans FZ.out.blk⟩
  clear KZ FZ OZ i5 g5
  generalize wu.setCell ⟨g, 5, none⟩ (.int .i64 ((s.start f).n + 1)) = wt at kz fz oz ⊢
  have i5 : wt.cell? ⟨g, 5, none⟩ = some (.int .i64 ((s.start f).n + 1)) := kz.c5
  have i6 := fz.parts
  have t0 := OK.out.parts.1
  have t1 := OK.out.parts.2
  have KZ := hide kz; have OZ := hide oz
  clear kz fz oz
  go_quiet (fail)
  go_wp2
  go_ret3
  exact ⟨rfl, KZ.out.drewN nq, OZ.out.drewN nq⟩

set_option maxHeartbeats 400000 in
set_option maxRecDepth 20000 in
theorem put_newer_more {w : World} {g h cap : Nat} {s : Gl} (k : GAt w g h cap s) (f : Fr) (ok : FrOk f) (hk : f.kind = 4) (hf : fitsP s.value.length f) (hi : s.is = true) (hc : 0 < cmpV f.vi f.vs s.vi s.vs) (hm : (s.start f).n + 1 < f.parts) :
    Calls Try.prog 31 #[.pointer (some ⟨g, 0, none⟩), .agg (frV f)] w fun e w' => e = putR ⟨#[]⟩ false 0 ∧ GAt w' g h cap ((s.start f).took f) ∧ Only g h w w' := by
  have hgl := k.glt
  have hhl := k.lt
  have NE := hide (show w.heap.size ≠ g ∧ w.heap.size ≠ h from ⟨by omega, by omega⟩)
  have FB := hide (fbox w f)
  have KB := hide (k.boxed f)
  have OK := hide ok
  have HF := hide hf
  have c0 := (fbox w f).kind
  rw [hk] at c0
  clear k ok hf hk
  go_enter Try.func31, Try.ntmps31
  go_wp2_with (first
    | (go_at_call 41; refine (fits_any KB.out f OK.out true ⟨fun _ => HF.out, fun _ => rfl⟩).mono ?_; rintro e w2 ⟨rfl, b2⟩)
    | (refine wpList_load_row rfl 36 _ rfl _ rfl 36 (frV f) (0, 0) _ FB.out.blk Try.underlying36 rfl (by kernel_rfl) ?_))
  have lb := FB.out.blk
  have k2 := GAt.below2 KB.out b2
  have fb2 : FBox w w2 w.heap.size f := ⟨(b2.block _ (Array.getElem?_eq_some_iff.1 lb).1).trans lb, FB.out.bw.trans (b2.mono (by simp)), rfl⟩
  clear b2 FB KB c0 lb
  generalize w.heap.size = p at fb2 ⊢
  have a1 := fb2.vi
  have a2 := fb2.vs
  have a3 := GAt.c1 k2
  have a4 := GAt.c2 k2
  have FB := hide fb2; have KB := hide k2
  clear fb2 k2
  go_region_held3 (fun w' => w'.cell? ⟨p, 14, none⟩ = some (.int .u16 f.vi) ∧ w'.cell? ⟨p, 15, none⟩ = some (.int .u32 f.vs) ∧ w'.cell? ⟨g, 1, none⟩ = some (.int .u16 s.vi) ∧ w'.cell? ⟨g, 2, none⟩ = some (.int .u32 s.vs)) (first | exact ⟨a1, a2, a3, a4⟩ | exact ⟨q1, q2, q3, q4⟩)
    (first
      | (go_at_call 42; refine (vcmp_any f.vi f.vs s.vi s.vs _).mono ?_; rintro e w3 ⟨rfl, b3⟩; have q1 := (FB.out.drew.below b3).vi; have q2 := (FB.out.drew.below b3).vs; have q3 := GAt.c1 (GAt.below3 KB.out b3); have q4 := GAt.c2 (GAt.below3 KB.out b3)))
  have fb3 := FB.out.drew.below b3
  have k3 := GAt.below3 KB.out b3
  clear q1 q2 q3 q4 a1 a2 a3 a4 b3 FB KB
  have i3 := k3.c3
  rw [hi] at i3
  clear hi
  have sz := fb3.sz
  have kz := k3
  have fz : FBk w3 p f := ⟨fb3.blk⟩
  have oz : Only g h w w3 := ⟨fb3.bw.os, fb3.bw.tape, fb3.bw.output, fb3.bw.size, fun k hk _ _ => fb3.bw.block k (by omega)⟩
  clear fb3 k3
  rw [sz] at NE
  have HS := hide sz
  clear sz hgl hhl
  generalize w3 = wz at kz fz oz i3 ⊢
  have a1 := fz.vi
  have a2 := fz.vs
  have KZ := hide kz; have FZ := hide fz; have OZ := hide oz
  clear kz fz oz
  go_wp2_with (go_at_call 43; refine (begin_any KZ.out f.vi f.vs).mono ?_; rintro e w4 ⟨rfl, k4, o4⟩)
  have kz : GAt w4 g h cap (s.start f) := k4
  have fz := FZ.out.only o4 NE.out.1 NE.out.2
  have oz := OZ.out.trans o4
  clear KZ FZ OZ k4 o4 a1 a2 i3 hc
  have HB := hide (show bitAt (s.start f).came f.part = 0 from bit_zero (fits_part HF.out))
  have HN := hide (show 0 ≤ (s.start f).n ∧ (s.start f).n ≤ 1000 from ⟨by simp [Gl.start], by simp [Gl.start]⟩)
  generalize w4 = wz at kz fz oz ⊢
  have i4 := kz.c4
  have i5 := fz.part
  have KZ := hide kz; have FZ := hide fz; have OZ := hide oz
  clear kz fz oz
  have HP := hide (fits_part HF.out)
  have p0 := HP.out.1
  have p1 := HP.out.2
  have hb2 : bits .and .u8 ((s.start f).came / 2 ^ f.part.toNat) 1 = 0 := HB.out
  go_wp2
  go_quiet (fail)
  have kz := KZ.out.drewN nq
  have fz := FZ.out.drewN nq
  have oz := OZ.out.drewN nq
  clear KZ FZ OZ i4 i5
  generalize wz.drewN nq = wy at kz fz oz ⊢
  have i0 := kz.c0
  have i5 := fz.part
  have KZ := hide kz; have FZ := hide fz; have OZ := hide oz
  clear kz fz oz
  have HA := hide (fits_at HF.out)
  go_wp2_with fail
  go_quiet ((go_at_call 40; exact quiet_left (piece_any _ _ (by omega) _)))
  have kz := KZ.out.drewN nq
  have fz := FZ.out.drewN nq
  have oz := OZ.out.drewN nq
  clear KZ FZ OZ i0 i5
  generalize wy.drewN nq = wx at kz fz oz ⊢
  rw [show pAt ((s.start f).value.length : Int) f.part = f.part * 16 from HA.out.1]
  generalize hq16 : f.part * 16 = a16
  have q0 : 0 ≤ a16 := by rw [← hq16]; exact HA.out.2.1
  have q1 : a16 + f.bytes.size ≤ ((s.start f).value.length : Int) := by rw [← hq16]; exact HA.out.2.2
  have q2 : a16 ≤ ((s.start f).value.length : Int) := by omega
  have HQ := hide hq16
  clear hq16
  obtain ⟨A', hcut, hcopy⟩ := BAt.copy kz a16 f.bytes q0 q1
  have HC := hide hcopy
  have i0 := kz.c0
  have i6 := fz.bytes
  have KZ := hide kz; have FZ := hide fz; have OZ := hide oz
  clear kz fz oz hcopy
  go_wp2_with fail
  go_region_held3 (fun w' => w'.cell? ⟨g, 0, none⟩ = some (.slice (some ⟨h, 0, none⟩) (s.start f).value.length cap) ∧ w'.cell? ⟨p, 18, none⟩ = some (.string f.bytes)) (first | exact ⟨i0, i6⟩ | exact ⟨j0, j6⟩)
    (first
      | (refine step_copy_ex rfl (.tmp 76) (.tmp 78) 23 9 rfl _ _ (by simp [Act.eval, Act.put]) (by simp [Act.eval, Act.put]) (HC.out _ ((Only.refl g h _).drewN 1) rfl) ?_; rintro wv ⟨kv, ov⟩; have j0 : wv.cell? ⟨g, 0, none⟩ = some (.slice (some ⟨h, 0, none⟩) (s.start f).value.length cap) := BAt.c0_len kv (pasteL_length (by have := size_data f.bytes; omega)); have j6 := (FZ.out.only ov NE.out.1 NE.out.2).bytes))
  clear j0 j6
  have kv : GAt wv g h cap { (s.start f) with value := pasteL (s.start f).value a16.toNat f.bytes.data.toList } := kv
  have fz : FBk wv p f := FZ.out.only ov (NE.out.1) (NE.out.2)
  have oz := OZ.out.trans ov
  clear KZ FZ OZ i0 i6 ov
  have i4 := kv.c4
  have g4 := kv.f 4
  have i5 := fz.part
  have KZ := hide kv; have FZ := hide fz; have OZ := hide oz
  clear kv fz oz
  have hset : bits .or .u8 (s.start f).came (2 ^ f.part.toNat % 256) = setAt (s.start f).came f.part := by unfold setAt; rw [IntKind.wrap_u8]; simp
  go_wp2_with fail
  go_region
  have kz : GAt (wv.setCell ⟨g, 4, none⟩ (.int .u8 (setAt (s.start f).came f.part))).drew g h cap { (s.start f) with value := pasteL (s.start f).value a16.toNat f.bytes.data.toList, came := setAt (s.start f).came f.part } := BAt.drew (KZ.out.set 3 _)
  have oz : Only g h w (wv.setCell ⟨g, 4, none⟩ (.int .u8 (setAt (s.start f).came f.part))).drew := (OZ.out.set g 4 _ (.inl rfl)).drewN 1
  have fz : FBk (wv.setCell ⟨g, 4, none⟩ (.int .u8 (setAt (s.start f).came f.part))).drew p f := ⟨(Below.heap_setCell _ _ _ _ NE.out.1).trans FZ.out.blk⟩
  clear KZ FZ OZ i4 g4 i5 hset
  generalize (wv.setCell ⟨g, 4, none⟩ (.int .u8 (setAt (s.start f).came f.part))).drew = wu at kz fz oz ⊢
  have i5 := kz.c5
  have g5 := kz.f 5
  have n0 := HN.out.1
  have n1 := HN.out.2
  have KZ := hide kz; have FZ := hide fz; have OZ := hide oz
  clear kz fz oz
  go_wp2_with fail
  have kz : GAt (wu.setCell ⟨g, 5, none⟩ (.int .i64 ((s.start f).n + 1))) g h cap ((s.start f).took f) := by
    have := KZ.out.set 4 (.int .i64 ((s.start f).n + 1))
    rw [← HQ.out] at this
    exact this
  have oz : Only g h w (wu.setCell ⟨g, 5, none⟩ (.int .i64 ((s.start f).n + 1))) := OZ.out.set g 5 _ (.inl rfl)
  have fz : FBk (wu.setCell ⟨g, 5, none⟩ (.int .i64 ((s.start f).n + 1))) p f := ⟨(Below.heap_setCell _ _ _ _ NE.out.1).trans FZ.out.blk⟩
  clear KZ FZ OZ i5 g5
  generalize wu.setCell ⟨g, 5, none⟩ (.int .i64 ((s.start f).n + 1)) = wt at kz fz oz ⊢
  have i5 : wt.cell? ⟨g, 5, none⟩ = some (.int .i64 ((s.start f).n + 1)) := kz.c5
  have i6 := fz.parts
  have t0 := OK.out.parts.1
  have t1 := OK.out.parts.2
  have KZ := hide kz; have OZ := hide oz
  clear kz fz oz
  go_quiet (fail)
  go_wp2
  go_ret3
  exact ⟨rfl, KZ.out.drewN nq, OZ.out.drewN nq⟩

set_option maxHeartbeats 400000 in
set_option maxRecDepth 20000 in
theorem put_same_last {w : World} {g h cap : Nat} {s : Gl} (k : GAt w g h cap s) (f : Fr) (ok : FrOk f) (hk : f.kind = 4) (hf : fitsP s.value.length f) (hi : s.is = true) (hc : cmpV f.vi f.vs s.vi s.vs = 0) (hb : bitAt s.came f.part = 0) (hn : 0 ≤ s.n ∧ s.n ≤ 1000) (hm : ¬ s.n + 1 < f.parts) :
    Calls Try.prog 31 #[.pointer (some ⟨g, 0, none⟩), .agg (frV f)] w fun e w' => e = putR (ofL (s.took f).value) true 0 ∧ GAt w' g h cap (s.took f) ∧ Only g h w w' := by
  have hgl := k.glt
  have hhl := k.lt
  have NE := hide (show w.heap.size ≠ g ∧ w.heap.size ≠ h from ⟨by omega, by omega⟩)
  have FB := hide (fbox w f)
  have KB := hide (k.boxed f)
  have OK := hide ok
  have HF := hide hf
  have c0 := (fbox w f).kind
  rw [hk] at c0
  clear k ok hf hk
  go_enter Try.func31, Try.ntmps31
  go_wp2_with (first
    | (go_at_call 41; refine (fits_any KB.out f OK.out true ⟨fun _ => HF.out, fun _ => rfl⟩).mono ?_; rintro e w2 ⟨rfl, b2⟩)
    | (refine wpList_load_row rfl 36 _ rfl _ rfl 36 (frV f) (0, 0) _ FB.out.blk Try.underlying36 rfl (by kernel_rfl) ?_))
  have lb := FB.out.blk
  have k2 := GAt.below2 KB.out b2
  have fb2 : FBox w w2 w.heap.size f := ⟨(b2.block _ (Array.getElem?_eq_some_iff.1 lb).1).trans lb, FB.out.bw.trans (b2.mono (by simp)), rfl⟩
  clear b2 FB KB c0 lb
  generalize w.heap.size = p at fb2 ⊢
  have a1 := fb2.vi
  have a2 := fb2.vs
  have a3 := GAt.c1 k2
  have a4 := GAt.c2 k2
  have FB := hide fb2; have KB := hide k2
  clear fb2 k2
  go_region_held3 (fun w' => w'.cell? ⟨p, 14, none⟩ = some (.int .u16 f.vi) ∧ w'.cell? ⟨p, 15, none⟩ = some (.int .u32 f.vs) ∧ w'.cell? ⟨g, 1, none⟩ = some (.int .u16 s.vi) ∧ w'.cell? ⟨g, 2, none⟩ = some (.int .u32 s.vs)) (first | exact ⟨a1, a2, a3, a4⟩ | exact ⟨q1, q2, q3, q4⟩)
    (first
      | (go_at_call 42; refine (vcmp_any f.vi f.vs s.vi s.vs _).mono ?_; rintro e w3 ⟨rfl, b3⟩; have q1 := (FB.out.drew.below b3).vi; have q2 := (FB.out.drew.below b3).vs; have q3 := GAt.c1 (GAt.below3 KB.out b3); have q4 := GAt.c2 (GAt.below3 KB.out b3)))
  have fb3 := FB.out.drew.below b3
  have k3 := GAt.below3 KB.out b3
  clear q1 q2 q3 q4 a1 a2 a3 a4 b3 FB KB
  have i3 := k3.c3
  rw [hi] at i3
  have HB := hide hb
  have HN := hide hn
  clear hb hn hi
  have sz := fb3.sz
  have kz := k3
  have fz : FBk w3 p f := ⟨fb3.blk⟩
  have oz : Only g h w w3 := ⟨fb3.bw.os, fb3.bw.tape, fb3.bw.output, fb3.bw.size, fun k hk _ _ => fb3.bw.block k (by omega)⟩
  clear fb3 k3
  rw [sz] at NE
  have HS := hide sz
  clear sz hgl hhl
  generalize w3 = wz at kz fz oz i3 ⊢
  have i4 := kz.c4
  have i5 := fz.part
  have KZ := hide kz; have FZ := hide fz; have OZ := hide oz
  clear kz fz oz
  have HP := hide (fits_part HF.out)
  have p0 := HP.out.1
  have p1 := HP.out.2
  have hb2 : bits .and .u8 (s.came / 2 ^ f.part.toNat) 1 = 0 := HB.out
  go_wp2
  go_quiet (fail)
  have kz := KZ.out.drewN nq
  have fz := FZ.out.drewN nq
  have oz := OZ.out.drewN nq
  clear KZ FZ OZ i4 i5
  generalize wz.drewN nq = wy at kz fz oz ⊢
  have i0 := kz.c0
  have i5 := fz.part
  have KZ := hide kz; have FZ := hide fz; have OZ := hide oz
  clear kz fz oz
  have HA := hide (fits_at HF.out)
  go_wp2_with fail
  go_quiet ((go_at_call 40; exact quiet_left (piece_any _ _ (by omega) _)))
  have kz := KZ.out.drewN nq
  have fz := FZ.out.drewN nq
  have oz := OZ.out.drewN nq
  clear KZ FZ OZ i0 i5
  generalize wy.drewN nq = wx at kz fz oz ⊢
  rw [show pAt (s.value.length : Int) f.part = f.part * 16 from HA.out.1]
  generalize hq16 : f.part * 16 = a16
  have q0 : 0 ≤ a16 := by rw [← hq16]; exact HA.out.2.1
  have q1 : a16 + f.bytes.size ≤ (s.value.length : Int) := by rw [← hq16]; exact HA.out.2.2
  have q2 : a16 ≤ (s.value.length : Int) := by omega
  have HQ := hide hq16
  clear hq16
  obtain ⟨A', hcut, hcopy⟩ := BAt.copy kz a16 f.bytes q0 q1
  have HC := hide hcopy
  have i0 := kz.c0
  have i6 := fz.bytes
  have KZ := hide kz; have FZ := hide fz; have OZ := hide oz
  clear kz fz oz hcopy
  go_wp2_with fail
  go_region_held3 (fun w' => w'.cell? ⟨g, 0, none⟩ = some (.slice (some ⟨h, 0, none⟩) s.value.length cap) ∧ w'.cell? ⟨p, 18, none⟩ = some (.string f.bytes)) (first | exact ⟨i0, i6⟩ | exact ⟨j0, j6⟩)
    (first
      | (refine step_copy_ex rfl (.tmp 76) (.tmp 78) 23 9 rfl _ _ (by simp [Act.eval, Act.put]) (by simp [Act.eval, Act.put]) (HC.out _ ((Only.refl g h _).drewN 1) rfl) ?_; rintro wv ⟨kv, ov⟩; have j0 : wv.cell? ⟨g, 0, none⟩ = some (.slice (some ⟨h, 0, none⟩) s.value.length cap) := BAt.c0_len kv (pasteL_length (by have := size_data f.bytes; omega)); have j6 := (FZ.out.only ov NE.out.1 NE.out.2).bytes))
  clear j0 j6
  have kv : GAt wv g h cap { s with value := pasteL s.value a16.toNat f.bytes.data.toList } := kv
  have fz : FBk wv p f := FZ.out.only ov (NE.out.1) (NE.out.2)
  have oz := OZ.out.trans ov
  clear KZ FZ OZ i0 i6 ov
  have i4 := kv.c4
  have g4 := kv.f 4
  have i5 := fz.part
  have KZ := hide kv; have FZ := hide fz; have OZ := hide oz
  clear kv fz oz
  have hset : bits .or .u8 s.came (2 ^ f.part.toNat % 256) = setAt s.came f.part := by unfold setAt; rw [IntKind.wrap_u8]; simp
  go_wp2_with fail
  go_region
  have kz : GAt (wv.setCell ⟨g, 4, none⟩ (.int .u8 (setAt s.came f.part))).drew g h cap { s with value := pasteL s.value a16.toNat f.bytes.data.toList, came := setAt s.came f.part } := BAt.drew (KZ.out.set 3 _)
  have oz : Only g h w (wv.setCell ⟨g, 4, none⟩ (.int .u8 (setAt s.came f.part))).drew := (OZ.out.set g 4 _ (.inl rfl)).drewN 1
  have fz : FBk (wv.setCell ⟨g, 4, none⟩ (.int .u8 (setAt s.came f.part))).drew p f := ⟨(Below.heap_setCell _ _ _ _ NE.out.1).trans FZ.out.blk⟩
  clear KZ FZ OZ i4 g4 i5 hset
  generalize (wv.setCell ⟨g, 4, none⟩ (.int .u8 (setAt s.came f.part))).drew = wu at kz fz oz ⊢
  have i5 := kz.c5
  have g5 := kz.f 5
  have n0 := HN.out.1
  have n1 := HN.out.2
  have KZ := hide kz; have FZ := hide fz; have OZ := hide oz
  clear kz fz oz
  go_wp2_with fail
  have kz : GAt (wu.setCell ⟨g, 5, none⟩ (.int .i64 (s.n + 1))) g h cap (s.took f) := by
    have := KZ.out.set 4 (.int .i64 (s.n + 1))
    rw [← HQ.out] at this
    exact this
  have oz : Only g h w (wu.setCell ⟨g, 5, none⟩ (.int .i64 (s.n + 1))) := OZ.out.set g 5 _ (.inl rfl)
  have fz : FBk (wu.setCell ⟨g, 5, none⟩ (.int .i64 (s.n + 1))) p f := ⟨(Below.heap_setCell _ _ _ _ NE.out.1).trans FZ.out.blk⟩
  clear KZ FZ OZ i5 g5
  generalize wu.setCell ⟨g, 5, none⟩ (.int .i64 (s.n + 1)) = wt at kz fz oz ⊢
  have i5 : wt.cell? ⟨g, 5, none⟩ = some (.int .i64 (s.n + 1)) := kz.c5
  have i6 := fz.parts
  have t0 := OK.out.parts.1
  have t1 := OK.out.parts.2
  have KZ := hide kz; have OZ := hide oz
  clear kz fz oz
  go_quiet (fail)
  have kz := KZ.out.drewN nq
  have oz := OZ.out.drewN nq
  have i0 := kz.c0
  have hstr := BAt.str kz
  have KZ := hide kz; have OZ := hide oz
  clear kz oz
  go_wp2
  go_ret3
  exact ⟨rfl, KZ.out, OZ.out⟩

set_option maxHeartbeats 400000 in
set_option maxRecDepth 20000 in
theorem put_fresh_last {w : World} {g h cap : Nat} {s : Gl} (k : GAt w g h cap s) (f : Fr) (ok : FrOk f) (hk : f.kind = 4) (hf : fitsP s.value.length f) (hi : s.is = false) (hm : ¬ (s.start f).n + 1 < f.parts) :
    Calls Try.prog 31 #[.pointer (some ⟨g, 0, none⟩), .agg (frV f)] w fun e w' => e = putR (ofL ((s.start f).took f).value) true 0 ∧ GAt w' g h cap ((s.start f).took f) ∧ Only g h w w' := by
  have hgl := k.glt
  have hhl := k.lt
  have NE := hide (show w.heap.size ≠ g ∧ w.heap.size ≠ h from ⟨by omega, by omega⟩)
  have FB := hide (fbox w f)
  have KB := hide (k.boxed f)
  have OK := hide ok
  have HF := hide hf
  have c0 := (fbox w f).kind
  rw [hk] at c0
  clear k ok hf hk
  go_enter Try.func31, Try.ntmps31
  go_wp2_with (first
    | (go_at_call 41; refine (fits_any KB.out f OK.out true ⟨fun _ => HF.out, fun _ => rfl⟩).mono ?_; rintro e w2 ⟨rfl, b2⟩)
    | (refine wpList_load_row rfl 36 _ rfl _ rfl 36 (frV f) (0, 0) _ FB.out.blk Try.underlying36 rfl (by kernel_rfl) ?_))
  have lb := FB.out.blk
  have k2 := GAt.below2 KB.out b2
  have fb2 : FBox w w2 w.heap.size f := ⟨(b2.block _ (Array.getElem?_eq_some_iff.1 lb).1).trans lb, FB.out.bw.trans (b2.mono (by simp)), rfl⟩
  clear b2 FB KB c0 lb
  generalize w.heap.size = p at fb2 ⊢
  have a1 := fb2.vi
  have a2 := fb2.vs
  have a3 := GAt.c1 k2
  have a4 := GAt.c2 k2
  have FB := hide fb2; have KB := hide k2
  clear fb2 k2
  go_region_held3 (fun w' => w'.cell? ⟨p, 14, none⟩ = some (.int .u16 f.vi) ∧ w'.cell? ⟨p, 15, none⟩ = some (.int .u32 f.vs) ∧ w'.cell? ⟨g, 1, none⟩ = some (.int .u16 s.vi) ∧ w'.cell? ⟨g, 2, none⟩ = some (.int .u32 s.vs)) (first | exact ⟨a1, a2, a3, a4⟩ | exact ⟨q1, q2, q3, q4⟩)
    (first
      | (go_at_call 42; refine (vcmp_any f.vi f.vs s.vi s.vs _).mono ?_; rintro e w3 ⟨rfl, b3⟩; have q1 := (FB.out.drew.below b3).vi; have q2 := (FB.out.drew.below b3).vs; have q3 := GAt.c1 (GAt.below3 KB.out b3); have q4 := GAt.c2 (GAt.below3 KB.out b3)))
  have fb3 := FB.out.drew.below b3
  have k3 := GAt.below3 KB.out b3
  clear q1 q2 q3 q4 a1 a2 a3 a4 b3 FB KB
  have hc := hi
  have i3 := k3.c3
  rw [hi] at i3
  clear hi
  have sz := fb3.sz
  have kz := k3
  have fz : FBk w3 p f := ⟨fb3.blk⟩
  have oz : Only g h w w3 := ⟨fb3.bw.os, fb3.bw.tape, fb3.bw.output, fb3.bw.size, fun k hk _ _ => fb3.bw.block k (by omega)⟩
  clear fb3 k3
  rw [sz] at NE
  have HS := hide sz
  clear sz hgl hhl
  generalize w3 = wz at kz fz oz i3 ⊢
  have a1 := fz.vi
  have a2 := fz.vs
  have KZ := hide kz; have FZ := hide fz; have OZ := hide oz
  clear kz fz oz
  go_wp2_with (go_at_call 43; refine (begin_any KZ.out f.vi f.vs).mono ?_; rintro e w4 ⟨rfl, k4, o4⟩)
  have kz : GAt w4 g h cap (s.start f) := k4
  have fz := FZ.out.only o4 NE.out.1 NE.out.2
  have oz := OZ.out.trans o4
  clear KZ FZ OZ k4 o4 a1 a2 i3 hc
  have HB := hide (show bitAt (s.start f).came f.part = 0 from bit_zero (fits_part HF.out))
  have HN := hide (show 0 ≤ (s.start f).n ∧ (s.start f).n ≤ 1000 from ⟨by simp [Gl.start], by simp [Gl.start]⟩)
  generalize w4 = wz at kz fz oz ⊢
  have i4 := kz.c4
  have i5 := fz.part
  have KZ := hide kz; have FZ := hide fz; have OZ := hide oz
  clear kz fz oz
  have HP := hide (fits_part HF.out)
  have p0 := HP.out.1
  have p1 := HP.out.2
  have hb2 : bits .and .u8 ((s.start f).came / 2 ^ f.part.toNat) 1 = 0 := HB.out
  go_wp2
  go_quiet (fail)
  have kz := KZ.out.drewN nq
  have fz := FZ.out.drewN nq
  have oz := OZ.out.drewN nq
  clear KZ FZ OZ i4 i5
  generalize wz.drewN nq = wy at kz fz oz ⊢
  have i0 := kz.c0
  have i5 := fz.part
  have KZ := hide kz; have FZ := hide fz; have OZ := hide oz
  clear kz fz oz
  have HA := hide (fits_at HF.out)
  go_wp2_with fail
  go_quiet ((go_at_call 40; exact quiet_left (piece_any _ _ (by omega) _)))
  have kz := KZ.out.drewN nq
  have fz := FZ.out.drewN nq
  have oz := OZ.out.drewN nq
  clear KZ FZ OZ i0 i5
  generalize wy.drewN nq = wx at kz fz oz ⊢
  rw [show pAt ((s.start f).value.length : Int) f.part = f.part * 16 from HA.out.1]
  generalize hq16 : f.part * 16 = a16
  have q0 : 0 ≤ a16 := by rw [← hq16]; exact HA.out.2.1
  have q1 : a16 + f.bytes.size ≤ ((s.start f).value.length : Int) := by rw [← hq16]; exact HA.out.2.2
  have q2 : a16 ≤ ((s.start f).value.length : Int) := by omega
  have HQ := hide hq16
  clear hq16
  obtain ⟨A', hcut, hcopy⟩ := BAt.copy kz a16 f.bytes q0 q1
  have HC := hide hcopy
  have i0 := kz.c0
  have i6 := fz.bytes
  have KZ := hide kz; have FZ := hide fz; have OZ := hide oz
  clear kz fz oz hcopy
  go_wp2_with fail
  go_region_held3 (fun w' => w'.cell? ⟨g, 0, none⟩ = some (.slice (some ⟨h, 0, none⟩) (s.start f).value.length cap) ∧ w'.cell? ⟨p, 18, none⟩ = some (.string f.bytes)) (first | exact ⟨i0, i6⟩ | exact ⟨j0, j6⟩)
    (first
      | (refine step_copy_ex rfl (.tmp 76) (.tmp 78) 23 9 rfl _ _ (by simp [Act.eval, Act.put]) (by simp [Act.eval, Act.put]) (HC.out _ ((Only.refl g h _).drewN 1) rfl) ?_; rintro wv ⟨kv, ov⟩; have j0 : wv.cell? ⟨g, 0, none⟩ = some (.slice (some ⟨h, 0, none⟩) (s.start f).value.length cap) := BAt.c0_len kv (pasteL_length (by have := size_data f.bytes; omega)); have j6 := (FZ.out.only ov NE.out.1 NE.out.2).bytes))
  clear j0 j6
  have kv : GAt wv g h cap { (s.start f) with value := pasteL (s.start f).value a16.toNat f.bytes.data.toList } := kv
  have fz : FBk wv p f := FZ.out.only ov (NE.out.1) (NE.out.2)
  have oz := OZ.out.trans ov
  clear KZ FZ OZ i0 i6 ov
  have i4 := kv.c4
  have g4 := kv.f 4
  have i5 := fz.part
  have KZ := hide kv; have FZ := hide fz; have OZ := hide oz
  clear kv fz oz
  have hset : bits .or .u8 (s.start f).came (2 ^ f.part.toNat % 256) = setAt (s.start f).came f.part := by unfold setAt; rw [IntKind.wrap_u8]; simp
  go_wp2_with fail
  go_region
  have kz : GAt (wv.setCell ⟨g, 4, none⟩ (.int .u8 (setAt (s.start f).came f.part))).drew g h cap { (s.start f) with value := pasteL (s.start f).value a16.toNat f.bytes.data.toList, came := setAt (s.start f).came f.part } := BAt.drew (KZ.out.set 3 _)
  have oz : Only g h w (wv.setCell ⟨g, 4, none⟩ (.int .u8 (setAt (s.start f).came f.part))).drew := (OZ.out.set g 4 _ (.inl rfl)).drewN 1
  have fz : FBk (wv.setCell ⟨g, 4, none⟩ (.int .u8 (setAt (s.start f).came f.part))).drew p f := ⟨(Below.heap_setCell _ _ _ _ NE.out.1).trans FZ.out.blk⟩
  clear KZ FZ OZ i4 g4 i5 hset
  generalize (wv.setCell ⟨g, 4, none⟩ (.int .u8 (setAt (s.start f).came f.part))).drew = wu at kz fz oz ⊢
  have i5 := kz.c5
  have g5 := kz.f 5
  have n0 := HN.out.1
  have n1 := HN.out.2
  have KZ := hide kz; have FZ := hide fz; have OZ := hide oz
  clear kz fz oz
  go_wp2_with fail
  have kz : GAt (wu.setCell ⟨g, 5, none⟩ (.int .i64 ((s.start f).n + 1))) g h cap ((s.start f).took f) := by
    have := KZ.out.set 4 (.int .i64 ((s.start f).n + 1))
    rw [← HQ.out] at this
    exact this
  have oz : Only g h w (wu.setCell ⟨g, 5, none⟩ (.int .i64 ((s.start f).n + 1))) := OZ.out.set g 5 _ (.inl rfl)
  have fz : FBk (wu.setCell ⟨g, 5, none⟩ (.int .i64 ((s.start f).n + 1))) p f := ⟨(Below.heap_setCell _ _ _ _ NE.out.1).trans FZ.out.blk⟩
  clear KZ FZ OZ i5 g5
  generalize wu.setCell ⟨g, 5, none⟩ (.int .i64 ((s.start f).n + 1)) = wt at kz fz oz ⊢
  have i5 : wt.cell? ⟨g, 5, none⟩ = some (.int .i64 ((s.start f).n + 1)) := kz.c5
  have i6 := fz.parts
  have t0 := OK.out.parts.1
  have t1 := OK.out.parts.2
  have KZ := hide kz; have OZ := hide oz
  clear kz fz oz
  go_quiet (fail)
  have kz := KZ.out.drewN nq
  have oz := OZ.out.drewN nq
  have i0 := kz.c0
  have hstr := BAt.str kz
  have KZ := hide kz; have OZ := hide oz
  clear kz oz
  go_wp2
  go_ret3
  exact ⟨rfl, KZ.out, OZ.out⟩

set_option maxHeartbeats 400000 in
set_option maxRecDepth 20000 in
theorem put_newer_last {w : World} {g h cap : Nat} {s : Gl} (k : GAt w g h cap s) (f : Fr) (ok : FrOk f) (hk : f.kind = 4) (hf : fitsP s.value.length f) (hi : s.is = true) (hc : 0 < cmpV f.vi f.vs s.vi s.vs) (hm : ¬ (s.start f).n + 1 < f.parts) :
    Calls Try.prog 31 #[.pointer (some ⟨g, 0, none⟩), .agg (frV f)] w fun e w' => e = putR (ofL ((s.start f).took f).value) true 0 ∧ GAt w' g h cap ((s.start f).took f) ∧ Only g h w w' := by
  have hgl := k.glt
  have hhl := k.lt
  have NE := hide (show w.heap.size ≠ g ∧ w.heap.size ≠ h from ⟨by omega, by omega⟩)
  have FB := hide (fbox w f)
  have KB := hide (k.boxed f)
  have OK := hide ok
  have HF := hide hf
  have c0 := (fbox w f).kind
  rw [hk] at c0
  clear k ok hf hk
  go_enter Try.func31, Try.ntmps31
  go_wp2_with (first
    | (go_at_call 41; refine (fits_any KB.out f OK.out true ⟨fun _ => HF.out, fun _ => rfl⟩).mono ?_; rintro e w2 ⟨rfl, b2⟩)
    | (refine wpList_load_row rfl 36 _ rfl _ rfl 36 (frV f) (0, 0) _ FB.out.blk Try.underlying36 rfl (by kernel_rfl) ?_))
  have lb := FB.out.blk
  have k2 := GAt.below2 KB.out b2
  have fb2 : FBox w w2 w.heap.size f := ⟨(b2.block _ (Array.getElem?_eq_some_iff.1 lb).1).trans lb, FB.out.bw.trans (b2.mono (by simp)), rfl⟩
  clear b2 FB KB c0 lb
  generalize w.heap.size = p at fb2 ⊢
  have a1 := fb2.vi
  have a2 := fb2.vs
  have a3 := GAt.c1 k2
  have a4 := GAt.c2 k2
  have FB := hide fb2; have KB := hide k2
  clear fb2 k2
  go_region_held3 (fun w' => w'.cell? ⟨p, 14, none⟩ = some (.int .u16 f.vi) ∧ w'.cell? ⟨p, 15, none⟩ = some (.int .u32 f.vs) ∧ w'.cell? ⟨g, 1, none⟩ = some (.int .u16 s.vi) ∧ w'.cell? ⟨g, 2, none⟩ = some (.int .u32 s.vs)) (first | exact ⟨a1, a2, a3, a4⟩ | exact ⟨q1, q2, q3, q4⟩)
    (first
      | (go_at_call 42; refine (vcmp_any f.vi f.vs s.vi s.vs _).mono ?_; rintro e w3 ⟨rfl, b3⟩; have q1 := (FB.out.drew.below b3).vi; have q2 := (FB.out.drew.below b3).vs; have q3 := GAt.c1 (GAt.below3 KB.out b3); have q4 := GAt.c2 (GAt.below3 KB.out b3)))
  have fb3 := FB.out.drew.below b3
  have k3 := GAt.below3 KB.out b3
  clear q1 q2 q3 q4 a1 a2 a3 a4 b3 FB KB
  have i3 := k3.c3
  rw [hi] at i3
  clear hi
  have sz := fb3.sz
  have kz := k3
  have fz : FBk w3 p f := ⟨fb3.blk⟩
  have oz : Only g h w w3 := ⟨fb3.bw.os, fb3.bw.tape, fb3.bw.output, fb3.bw.size, fun k hk _ _ => fb3.bw.block k (by omega)⟩
  clear fb3 k3
  rw [sz] at NE
  have HS := hide sz
  clear sz hgl hhl
  generalize w3 = wz at kz fz oz i3 ⊢
  have a1 := fz.vi
  have a2 := fz.vs
  have KZ := hide kz; have FZ := hide fz; have OZ := hide oz
  clear kz fz oz
  go_wp2_with (go_at_call 43; refine (begin_any KZ.out f.vi f.vs).mono ?_; rintro e w4 ⟨rfl, k4, o4⟩)
  have kz : GAt w4 g h cap (s.start f) := k4
  have fz := FZ.out.only o4 NE.out.1 NE.out.2
  have oz := OZ.out.trans o4
  clear KZ FZ OZ k4 o4 a1 a2 i3 hc
  have HB := hide (show bitAt (s.start f).came f.part = 0 from bit_zero (fits_part HF.out))
  have HN := hide (show 0 ≤ (s.start f).n ∧ (s.start f).n ≤ 1000 from ⟨by simp [Gl.start], by simp [Gl.start]⟩)
  generalize w4 = wz at kz fz oz ⊢
  have i4 := kz.c4
  have i5 := fz.part
  have KZ := hide kz; have FZ := hide fz; have OZ := hide oz
  clear kz fz oz
  have HP := hide (fits_part HF.out)
  have p0 := HP.out.1
  have p1 := HP.out.2
  have hb2 : bits .and .u8 ((s.start f).came / 2 ^ f.part.toNat) 1 = 0 := HB.out
  go_wp2
  go_quiet (fail)
  have kz := KZ.out.drewN nq
  have fz := FZ.out.drewN nq
  have oz := OZ.out.drewN nq
  clear KZ FZ OZ i4 i5
  generalize wz.drewN nq = wy at kz fz oz ⊢
  have i0 := kz.c0
  have i5 := fz.part
  have KZ := hide kz; have FZ := hide fz; have OZ := hide oz
  clear kz fz oz
  have HA := hide (fits_at HF.out)
  go_wp2_with fail
  go_quiet ((go_at_call 40; exact quiet_left (piece_any _ _ (by omega) _)))
  have kz := KZ.out.drewN nq
  have fz := FZ.out.drewN nq
  have oz := OZ.out.drewN nq
  clear KZ FZ OZ i0 i5
  generalize wy.drewN nq = wx at kz fz oz ⊢
  rw [show pAt ((s.start f).value.length : Int) f.part = f.part * 16 from HA.out.1]
  generalize hq16 : f.part * 16 = a16
  have q0 : 0 ≤ a16 := by rw [← hq16]; exact HA.out.2.1
  have q1 : a16 + f.bytes.size ≤ ((s.start f).value.length : Int) := by rw [← hq16]; exact HA.out.2.2
  have q2 : a16 ≤ ((s.start f).value.length : Int) := by omega
  have HQ := hide hq16
  clear hq16
  obtain ⟨A', hcut, hcopy⟩ := BAt.copy kz a16 f.bytes q0 q1
  have HC := hide hcopy
  have i0 := kz.c0
  have i6 := fz.bytes
  have KZ := hide kz; have FZ := hide fz; have OZ := hide oz
  clear kz fz oz hcopy
  go_wp2_with fail
  go_region_held3 (fun w' => w'.cell? ⟨g, 0, none⟩ = some (.slice (some ⟨h, 0, none⟩) (s.start f).value.length cap) ∧ w'.cell? ⟨p, 18, none⟩ = some (.string f.bytes)) (first | exact ⟨i0, i6⟩ | exact ⟨j0, j6⟩)
    (first
      | (refine step_copy_ex rfl (.tmp 76) (.tmp 78) 23 9 rfl _ _ (by simp [Act.eval, Act.put]) (by simp [Act.eval, Act.put]) (HC.out _ ((Only.refl g h _).drewN 1) rfl) ?_; rintro wv ⟨kv, ov⟩; have j0 : wv.cell? ⟨g, 0, none⟩ = some (.slice (some ⟨h, 0, none⟩) (s.start f).value.length cap) := BAt.c0_len kv (pasteL_length (by have := size_data f.bytes; omega)); have j6 := (FZ.out.only ov NE.out.1 NE.out.2).bytes))
  clear j0 j6
  have kv : GAt wv g h cap { (s.start f) with value := pasteL (s.start f).value a16.toNat f.bytes.data.toList } := kv
  have fz : FBk wv p f := FZ.out.only ov (NE.out.1) (NE.out.2)
  have oz := OZ.out.trans ov
  clear KZ FZ OZ i0 i6 ov
  have i4 := kv.c4
  have g4 := kv.f 4
  have i5 := fz.part
  have KZ := hide kv; have FZ := hide fz; have OZ := hide oz
  clear kv fz oz
  have hset : bits .or .u8 (s.start f).came (2 ^ f.part.toNat % 256) = setAt (s.start f).came f.part := by unfold setAt; rw [IntKind.wrap_u8]; simp
  go_wp2_with fail
  go_region
  have kz : GAt (wv.setCell ⟨g, 4, none⟩ (.int .u8 (setAt (s.start f).came f.part))).drew g h cap { (s.start f) with value := pasteL (s.start f).value a16.toNat f.bytes.data.toList, came := setAt (s.start f).came f.part } := BAt.drew (KZ.out.set 3 _)
  have oz : Only g h w (wv.setCell ⟨g, 4, none⟩ (.int .u8 (setAt (s.start f).came f.part))).drew := (OZ.out.set g 4 _ (.inl rfl)).drewN 1
  have fz : FBk (wv.setCell ⟨g, 4, none⟩ (.int .u8 (setAt (s.start f).came f.part))).drew p f := ⟨(Below.heap_setCell _ _ _ _ NE.out.1).trans FZ.out.blk⟩
  clear KZ FZ OZ i4 g4 i5 hset
  generalize (wv.setCell ⟨g, 4, none⟩ (.int .u8 (setAt (s.start f).came f.part))).drew = wu at kz fz oz ⊢
  have i5 := kz.c5
  have g5 := kz.f 5
  have n0 := HN.out.1
  have n1 := HN.out.2
  have KZ := hide kz; have FZ := hide fz; have OZ := hide oz
  clear kz fz oz
  go_wp2_with fail
  have kz : GAt (wu.setCell ⟨g, 5, none⟩ (.int .i64 ((s.start f).n + 1))) g h cap ((s.start f).took f) := by
    have := KZ.out.set 4 (.int .i64 ((s.start f).n + 1))
    rw [← HQ.out] at this
    exact this
  have oz : Only g h w (wu.setCell ⟨g, 5, none⟩ (.int .i64 ((s.start f).n + 1))) := OZ.out.set g 5 _ (.inl rfl)
  have fz : FBk (wu.setCell ⟨g, 5, none⟩ (.int .i64 ((s.start f).n + 1))) p f := ⟨(Below.heap_setCell _ _ _ _ NE.out.1).trans FZ.out.blk⟩
  clear KZ FZ OZ i5 g5
  generalize wu.setCell ⟨g, 5, none⟩ (.int .i64 ((s.start f).n + 1)) = wt at kz fz oz ⊢
  have i5 : wt.cell? ⟨g, 5, none⟩ = some (.int .i64 ((s.start f).n + 1)) := kz.c5
  have i6 := fz.parts
  have t0 := OK.out.parts.1
  have t1 := OK.out.parts.2
  have KZ := hide kz; have OZ := hide oz
  clear kz fz oz
  go_quiet (fail)
  have kz := KZ.out.drewN nq
  have oz := OZ.out.drewN nq
  have i0 := kz.c0
  have hstr := BAt.str kz
  have KZ := hide kz; have OZ := hide oz
  clear kz oz
  go_wp2
  go_ret3
  exact ⟨rfl, KZ.out, OZ.out⟩

end Go.Proofs.Ytdmohidkighajaa
