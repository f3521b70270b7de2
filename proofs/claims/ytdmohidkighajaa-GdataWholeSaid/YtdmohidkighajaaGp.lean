/- The walk of a glue's Put. -/
import Derived.Test.YtdmohidkighajaaGl
namespace Go.Proofs.Ytdmohidkighajaa
open Go.RowKit
set_option linter.unusedVariables false
set_option linter.unusedSimpArgs false

/-- What Put answers. -/
def putR (s : ByteArray) (ok : Bool) (e : Int) : Ending := .returned (.tuple #[.string s, .bool ok, .int .i64 e])

theorem GAt.below2 {w w' : World} {g h cap : Nat} {s : Gl} (k : GAt w g h cap s) (b : Below w.heap.size w w') : GAt w' g h cap s := BAt.below k b

/-- Bit p of a byte; a byte with it. -/
def bitAt (c p : Int) : Int := bits .and .u8 (c / 2 ^ p.toNat) 1
def setAt (c p : Int) : Int := bits .or .u8 c (IntKind.u8.wrap (1 * 2 ^ p.toNat))

theorem bit_facts : ∀ c : Fin 16, ∀ p : Fin 4, (bitAt (c.val : Int) (p.val : Int) = 0 ∨ bitAt (c.val : Int) (p.val : Int) = 1) ∧ 0 ≤ setAt (c.val : Int) (p.val : Int) ∧ setAt (c.val : Int) (p.val : Int) < 16 ∧ bitAt 0 (p.val : Int) = 0 ∧
    ∀ q : Fin 4, bitAt (setAt (c.val : Int) (p.val : Int)) (q.val : Int) = if q = p then 1 else bitAt (c.val : Int) (q.val : Int) := by decide +kernel

theorem fits_part {n : Int} {f : Fr} (h : fitsP n f) : 0 ≤ f.part ∧ f.part < 4 := by
  obtain ⟨h1, h2, h3⟩ := h
  have := nParts_le n
  unfold pLen at h2
  split at h2 <;> omega

set_option maxHeartbeats 400000 in
theorem put_kind {w : World} {g h cap : Nat} {s : Gl} (k : GAt w g h cap s) (f : Fr) (hk : f.kind ≠ 4) :
    Calls Try.prog 31 #[.pointer (some ⟨g, 0, none⟩), .agg (frV f)] w fun e w' => e = putR ⟨#[]⟩ false 11 ∧ Below w.heap.size w w' := by
  have FB := hide (fbox w f)
  have hk2 : (f.kind != 4) = true := by simpa using hk
  have hk3 : (f.kind == 4) = false := by simpa using hk
  have c0 := (fbox w f).kind
  clear k hk
  go_enter Try.func31, Try.ntmps31
  go_wp2
  go_ret3
  exact ⟨rfl, FB.out.bw⟩

set_option maxHeartbeats 400000 in
theorem put_form {w : World} {g h cap : Nat} {s : Gl} (k : GAt w g h cap s) (f : Fr) (ok : FrOk f) (hk : f.kind = 4) (hf : ¬ fitsP s.value.length f) :
    Calls Try.prog 31 #[.pointer (some ⟨g, 0, none⟩), .agg (frV f)] w fun e w' => e = putR ⟨#[]⟩ false 3 ∧ Below w.heap.size w w' := by
  have FB := hide (fbox w f)
  have KB := hide (k.boxed f)
  have OK := hide ok
  have HF := hide hf
  have c0 := (fbox w f).kind
  rw [hk] at c0
  clear k ok hf hk
  go_enter Try.func31, Try.ntmps31
  go_wp2_with (first
    | (go_at_call 41; refine (fits_any KB.out f OK.out false ⟨fun h => (by cases h), fun h => absurd h HF.out⟩).mono ?_; rintro e w2 ⟨rfl, b2⟩)
    | (refine wpList_load_row rfl 36 _ rfl _ rfl 36 (frV f) (0, 0) _ FB.out.blk Try.underlying36 rfl (by kernel_rfl) ?_))
  go_ret3
  exact ⟨rfl, FB.out.bw.trans (b2.mono (by simp))⟩

theorem FBox.below {w w1 w2 : World} {p : Nat} {f : Fr} (b : FBox w w1 p f) (h : Below w1.heap.size w1 w2) : FBox w w2 p f := by
  have hp := (Array.getElem?_eq_some_iff.1 b.blk).1
  exact ⟨(h.block _ hp).trans b.blk, b.bw.trans (h.mono (by omega)), b.sz⟩
theorem FBox.drew {w w1 : World} {p : Nat} {f : Fr} (b : FBox w w1 p f) : FBox w w1.drew p f := b.below ⟨rfl, rfl, rfl, Nat.le_refl _, fun _ _ => rfl⟩
theorem FBox.drewN {w w1 : World} {p : Nat} {f : Fr} (b : FBox w w1 p f) (n : Nat) : FBox w (w1.drewN n) p f := b.below ⟨rfl, rfl, rfl, Nat.le_refl _, fun _ _ => rfl⟩
theorem BAt.drew {T : TypeId} {w : World} {g h cap : Nat} {b : List UInt8} {cs : List Value} (k : BAt T w g h cap b cs) : BAt T w.drew g h cap b cs := k.same rfl
theorem BAt.drewN {T : TypeId} {w : World} {g h cap : Nat} {b : List UInt8} {cs : List Value} (k : BAt T w g h cap b cs) (n : Nat) : BAt T (w.drewN n) g h cap b cs := k.same rfl

theorem GAt.below3 {w w' : World} {g h cap : Nat} {s : Gl} (k : GAt w g h cap s) (b : Below w.drew.heap.size w.drew w') : GAt w' g h cap s := BAt.below k.drew b
theorem GAt.drewN {w : World} {g h cap : Nat} {s : Gl} (k : GAt w g h cap s) (n : Nat) : GAt (w.drewN n) g h cap s := BAt.drewN k n
theorem GAt.drew {w : World} {g h cap : Nat} {s : Gl} (k : GAt w g h cap s) : GAt w.drew g h cap s := BAt.drew k

set_option maxHeartbeats 400000 in
theorem put_old {w : World} {g h cap : Nat} {s : Gl} (k : GAt w g h cap s) (f : Fr) (ok : FrOk f) (hk : f.kind = 4) (hf : fitsP s.value.length f) (hi : s.is = true) (hc : cmpV f.vi f.vs s.vi s.vs < 0) :
    Calls Try.prog 31 #[.pointer (some ⟨g, 0, none⟩), .agg (frV f)] w fun e w' => e = putR ⟨#[]⟩ false 1 ∧ Below w.heap.size w w' := by
  have FB := hide (fbox w f)
  have KB := hide (k.boxed f)
  have OK := hide ok
  have HF := hide hf
  have c0 := (fbox w f).kind
  rw [hk] at c0
  clear k ok hf hk
  go_enter Try.func31, Try.ntmps31
  go_wp2_with (first
    | (go_at_call 41; refine (fits_any KB.out f OK.out true ⟨fun _ => HF.out, fun _ => rfl⟩).mono ?_; rintro e w2 ⟨rfl, b2⟩)
    | (refine wpList_load_row rfl 36 _ rfl _ rfl 36 (frV f) (0, 0) _ FB.out.blk Try.underlying36 rfl (by kernel_rfl) ?_))
  have lb := FB.out.blk
  have k2 := GAt.below2 KB.out b2
  have fb2 : FBox w w2 w.heap.size f := ⟨(b2.block _ (Array.getElem?_eq_some_iff.1 lb).1).trans lb, FB.out.bw.trans (b2.mono (by simp)), rfl⟩
  clear b2 FB KB c0 lb
  generalize w.heap.size = p at fb2 ⊢
  have a1 := fb2.vi
  have a2 := fb2.vs
  have a3 := GAt.c1 k2
  have a4 := GAt.c2 k2
  have FB := hide fb2; have KB := hide k2
  clear fb2 k2
  go_region_held3 (fun w' => w'.cell? ⟨p, 14, none⟩ = some (.int .u16 f.vi) ∧ w'.cell? ⟨p, 15, none⟩ = some (.int .u32 f.vs) ∧ w'.cell? ⟨g, 1, none⟩ = some (.int .u16 s.vi) ∧ w'.cell? ⟨g, 2, none⟩ = some (.int .u32 s.vs)) (first | exact ⟨a1, a2, a3, a4⟩ | exact ⟨q1, q2, q3, q4⟩)
    (first
      | (go_at_call 42; refine (vcmp_any f.vi f.vs s.vi s.vs _).mono ?_; rintro e w3 ⟨rfl, b3⟩; have q1 := (FB.out.drew.below b3).vi; have q2 := (FB.out.drew.below b3).vs; have q3 := GAt.c1 (GAt.below3 KB.out b3); have q4 := GAt.c2 (GAt.below3 KB.out b3)))
  have fb3 := FB.out.drew.below b3
  have k3 := GAt.below3 KB.out b3
  clear q1 q2 q3 q4 a1 a2 a3 a4 b3 FB KB
  have i3 := k3.c3
  rw [hi] at i3
  have bw := fb3.bw
  have sz := fb3.sz
  clear fb3 k3 hi
  generalize cmpV f.vi f.vs s.vi s.vs = q at hc ⊢
  go_wp2
  go_ret3
  exact ⟨rfl, by rw [sz]; exact bw⟩

set_option maxHeartbeats 400000 in
theorem put_twice {w : World} {g h cap : Nat} {s : Gl} (k : GAt w g h cap s) (f : Fr) (ok : FrOk f) (hk : f.kind = 4) (hf : fitsP s.value.length f) (hi : s.is = true) (hc : cmpV f.vi f.vs s.vi s.vs = 0) (hb : bitAt s.came f.part = 1) :
    Calls Try.prog 31 #[.pointer (some ⟨g, 0, none⟩), .agg (frV f)] w fun e w' => e = putR ⟨#[]⟩ false 14 ∧ Below w.heap.size w w' := by
  have FB := hide (fbox w f)
  have KB := hide (k.boxed f)
  have OK := hide ok
  have HF := hide hf
  have c0 := (fbox w f).kind
  rw [hk] at c0
  clear k ok hf hk
  go_enter Try.func31, Try.ntmps31
  go_wp2_with (first
    | (go_at_call 41; refine (fits_any KB.out f OK.out true ⟨fun _ => HF.out, fun _ => rfl⟩).mono ?_; rintro e w2 ⟨rfl, b2⟩)
    | (refine wpList_load_row rfl 36 _ rfl _ rfl 36 (frV f) (0, 0) _ FB.out.blk Try.underlying36 rfl (by kernel_rfl) ?_))
  have lb := FB.out.blk
  have k2 := GAt.below2 KB.out b2
  have fb2 : FBox w w2 w.heap.size f := ⟨(b2.block _ (Array.getElem?_eq_some_iff.1 lb).1).trans lb, FB.out.bw.trans (b2.mono (by simp)), rfl⟩
  clear b2 FB KB c0 lb
  generalize w.heap.size = p at fb2 ⊢
  have a1 := fb2.vi
  have a2 := fb2.vs
  have a3 := GAt.c1 k2
  have a4 := GAt.c2 k2
  have FB := hide fb2; have KB := hide k2
  clear fb2 k2
  go_region_held3 (fun w' => w'.cell? ⟨p, 14, none⟩ = some (.int .u16 f.vi) ∧ w'.cell? ⟨p, 15, none⟩ = some (.int .u32 f.vs) ∧ w'.cell? ⟨g, 1, none⟩ = some (.int .u16 s.vi) ∧ w'.cell? ⟨g, 2, none⟩ = some (.int .u32 s.vs)) (first | exact ⟨a1, a2, a3, a4⟩ | exact ⟨q1, q2, q3, q4⟩)
    (first
      | (go_at_call 42; refine (vcmp_any f.vi f.vs s.vi s.vs _).mono ?_; rintro e w3 ⟨rfl, b3⟩; have q1 := (FB.out.drew.below b3).vi; have q2 := (FB.out.drew.below b3).vs; have q3 := GAt.c1 (GAt.below3 KB.out b3); have q4 := GAt.c2 (GAt.below3 KB.out b3)))
  have fb3 := FB.out.drew.below b3
  have k3 := GAt.below3 KB.out b3
  clear q1 q2 q3 q4 a1 a2 a3 a4 b3 FB KB
  have i3 := k3.c3
  have i4 := k3.c4
  have i5 := fb3.part
  rw [hi] at i3
  have bw := fb3.bw
  have sz := fb3.sz
  clear fb3 k3 hi
  clear hc
  have HP := hide (fits_part HF.out)
  have p0 := HP.out.1
  have p1 := HP.out.2
  have hb2 : bits .and .u8 (s.came / 2 ^ f.part.toNat) 1 = 1 := hb
  clear hb
  go_wp2
  go_quiet (fail)
  go_wp2
  go_ret3
  exact ⟨rfl, by rw [sz]; exact ⟨bw.os, bw.tape, bw.output, bw.size, bw.block⟩⟩
end Go.Proofs.Ytdmohidkighajaa
