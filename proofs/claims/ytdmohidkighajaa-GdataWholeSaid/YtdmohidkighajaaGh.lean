/- The walks of both NewSub. -/
import Derived.Test.YtdmohidkighajaaGf
import Derived.Test.YtdmohidkighajaaShelf
namespace Go.Proofs.Ytdmohidkighajaa
open Go.RowKit
set_option linter.unusedVariables false
set_option linter.unusedSimpArgs false

/-- The first n bytes of a value that is filled with zeros. -/
def padS (n : Nat) (v : ByteArray) : ByteArray := ofL (padV n v.data.toList)
theorem padS_size (n : Nat) (v : ByteArray) : (padS n v).size = n := by unfold padS; rw [ofL_size, padV_len]
theorem repeat_zero (n : Nat) : Lib.repeatL [0] n = List.replicate n (0 : UInt8) := by
  induction n with
  | zero => rfl
  | succ n ih => simp [Lib.repeatL, List.replicate_succ] at ih ⊢; exact ih
theorem pad_take (n : Nat) (l : List UInt8) (m : Nat) (h : n ≤ l.length + m) : (l ++ List.replicate m 0).take n = padV n l := by
  unfold padV
  rw [List.take_append, List.take_replicate]
  congr 2
  omega

def sub0 (n : Nat) (v : ByteArray) : Sb := ⟨padS n v, 0, 0, ⟨#[]⟩, 0, 0, false, false⟩

set_option maxHeartbeats 400000 in
theorem subnew_no (n : Int) (v : ByteArray) (w : World) (hn : ¬ (1 ≤ n ∧ n ≤ 64)) :
    Calls Try.prog 9 #[.int .i64 n, .string v] w fun e w' => e = .returned (.pointer none) ∧ w = w' := by
  have HN := hide (gnew_no w n hn)
  clear hn
  go_enter Try.func9, Try.ntmps9
  go_wp2_with (go_at_call 27; refine HN.out.mono ?_; rintro e w' ⟨rfl, rfl⟩)
  go_ret
  exact ⟨rfl, rfl⟩

/-- A new subscriber. -/
def SMade (w : World) (n : Nat) (v : ByteArray) (e : Ending) (w' : World) : Prop :=
  ∃ p g h c, e = .returned (.pointer (some ⟨p, 0, none⟩)) ∧ SAt w' p g (sub0 n v) ∧ GAt w' g h c { value := List.replicate n 0, vi := 0, vs := 0, is := false, came := 0, n := 0 } ∧ w.heap.size ≤ p ∧ w.heap.size ≤ g ∧ w.heap.size ≤ h ∧ p ≠ g ∧ p ≠ h ∧ Below w.heap.size w w'

set_option maxHeartbeats 1000000 in
theorem subnew_yes (n : Nat) (v : ByteArray) (w : World) (h1 : 1 ≤ n) (h2 : n ≤ 64) (hv : v.size ≤ 1000) :
    Calls Try.prog 9 #[.int .i64 n, .string v] w (SMade w n v) := by
  have HN := hide (gnew_yes w n h1 h2)
  go_enter Try.func9, Try.ntmps9
  go_upto_region 4 with (go_at_call 27; refine HN.out.mono ?_; rintro e w1 ⟨g, h, c, rfl, hk, hg, hh, hb⟩)
  have HR := hide (Try.strings_Repeat ⟨#[0]⟩ n w1 (by omega) (by show 1 * n ≤ _; omega))
  have HK := hide hk; have HB := hide hb
  have hgl := hk.glt
  have hhl := hk.lt
  clear hk hb
  obtain ⟨R, hR, hRs⟩ : ∃ R : ByteArray, (⟨(Lib.repeatL (⟨#[0]⟩ : ByteArray).data.toList n).toArray⟩ : ByteArray) = R ∧ R.data.toList = List.replicate n 0 := ⟨_, rfl, by simp only; exact repeat_zero n⟩
  rw [hR] at HR
  have hsz : R.size = n := by rw [← size_data, hRs, List.length_replicate]
  have hcat : v.size + R.size ≤ 9223372036854775807 := by omega
  have hvr : (v ++ R).size = v.size + n := by rw [ByteArray.size_append, hsz]
  have hx : (v ++ R).extract 0 n = padS n v := by
    apply ofL_eq
    rw [data_extract, data_append, hRs, List.drop_zero, Nat.sub_zero]
    exact pad_take _ _ _ (by omega)
  go_wp2_with (first
    | (go_at_call 28; refine HR.out.mono ?_; rintro e w2 ⟨rfl, hb2⟩; have HB2 := hide hb2; clear hb2)
    | (refine wpList_buildTo rfl 78 _ rfl _ rfl #[.string (padS n v), .int .u16 0, .int .u32 0] (by kernel_rfl) ?_)
    | (refine wpList_buildTo rfl 85 _ rfl _ rfl (sbV g (sub0 n v)) (by kernel_rfl) ?_))
  go_ret
  have hz1 := HB.out.size
  have hz2 := HB2.out.size
  have hb3 : Below w2.heap.size w2 (w2.alloc (.cells (sbV g (sub0 n v)) 85)) := (Below.refl _ _).alloc (Nat.le_refl _) _
  exact ⟨w2.heap.size, g, h, c, rfl, heap_alloc_new w2 _, (HK.out.below HB2.out).below hb3, by omega, hg, hh, by omega, by omega, (HB.out.trans (HB2.out.mono hz1)).trans (hb3.mono (by omega))⟩

/-- The reference's subscriber, but its glue. -/
def rsT (s : Sb) : List Value := [.string s.front, .string s.behind, .int .u16 s.fi, .int .u32 s.fs, .int .u16 s.bi, .int .u32 s.bs, .bool s.waits, .bool s.fault]
def newRS (n : Nat) (s : Sb) : Rg := ⟨n, false, 0, 0, none, 0, [], 60, rsT s⟩

def RSMade (w : World) (n : Nat) (v : ByteArray) (e : Ending) (w' : World) : Prop :=
  ∃ r, e = .returned (.pointer (some ⟨r, 0, none⟩)) ∧ RAt w' r (newRS n (sub0 n v)) ∧ w.heap.size ≤ r ∧ Below w.heap.size w w'

set_option maxHeartbeats 1000000 in
set_option maxRecDepth 20000 in
theorem rsubnew_any (n : Nat) (v : ByteArray) (w : World) (h1 : 1 ≤ n) (h2 : n ≤ 64) (hv : v.size ≤ 1000) :
    Calls Try.prog 18 #[.int .i64 n, .string v] w (RSMade w n v) := by
  go_enter Try.func18, Try.ntmps18
  go_wp2_with fail
  go_loop [1] (fun x => ∃ k : Nat, x = .string (ofL (v.data.toList ++ List.replicate k 0)) ∧ k ≤ n) (fun x => n - lenOf x)
  case atStart => exact ⟨0, by simp [ofL], Nat.zero_le _⟩
  case round =>
    obtain ⟨k, rfl, hk⟩ := hrel
    obtain ⟨s, hs⟩ : ∃ s, ofL (v.data.toList ++ List.replicate k 0) = s := ⟨_, rfl⟩
    have hsz : s.size = v.size + k := by rw [← hs, ofL_size, List.length_append, size_data, List.length_replicate]
    have HS := hide hs
    rw [hs]
    clear hs
    by_cases hlt : s.size < n
    · have hcat : s.size + (⟨#[0]⟩ : ByteArray).size ≤ 9223372036854775807 := by show s.size + 1 ≤ _; omega
      go_wp2_with fail
      go_round
      case rel => exact ⟨k + 1, by rw [← HS.out, List.replicate_succ', ← List.append_assoc]; exact congrArg Value.string (ofL_append _ [0]).symm, by omega⟩
      case measure =>
        show n - (s ++ ⟨#[0]⟩ : ByteArray).size < n - s.size
        rw [ByteArray.size_append]
        show n - (s.size + 1) < _
        omega
    · have hx : s.extract 0 n = padS n v := by
        rw [← HS.out]
        apply ofL_eq
        rw [data_extract, ofL_data, List.drop_zero, Nat.sub_zero]
        exact pad_take _ _ _ (by rw [size_data]; omega)
      have hle : n ≤ s.size := by omega
      go_wp2_with (first
        | (refine wpList_buildTo rfl 58 _ rfl _ rfl #[.int .i64 n, .bool false, .int .u16 0, .int .u32 0, .slice none 0 0] (by kernel_rfl) ?_)
        | (refine wpList_buildTo rfl 60 _ rfl _ rfl (Value.int .i64 n :: .bool false :: .int .u16 0 :: .int .u32 0 :: .slice none 0 0 :: rsT (sub0 n v)).toArray (by kernel_rfl) ?_))
      go_ret
      exact ⟨w.heap.size, rfl, ⟨heap_alloc_new w _, Nat.le_refl _, fun a h => (by cases h), fun h => absurd rfl h⟩, Nat.le_refl _, (Below.refl _ _).alloc (Nat.le_refl _) _⟩
end Go.Proofs.Ytdmohidkighajaa
