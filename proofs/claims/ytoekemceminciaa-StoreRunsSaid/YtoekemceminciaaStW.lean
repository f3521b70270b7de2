/- The reference's Write (layer 6): byte by byte it does what the store's Write does. -/
import Derived.Test.YtoekemceminciaaStR
import Derived.RegionTactic
import Derived.BigRegion
namespace Go.Proofs.Ytoekemceminciaa
open Go.RowKit
set_option linter.unusedVariables false
set_option linter.unusedSimpArgs false
attribute [local go_sem] ofL_toList

theorem BAt.some_cell {T : TypeId} {w : World} {g h cap : Nat} {b : List UInt8} {cs : List Value} (k : BAt T w g h cap b cs) {i : Nat} (hi : i < b.length) : ∃ v, w.cell? ⟨h, i, none⟩ = some v := ⟨_, k.cell i hi⟩
theorem RAt.c0 {w : World} {g h cap : Nat} {s : St} (k : RAt w g h cap s) : w.cell? ⟨g, 0, none⟩ = some (.slice (some ⟨h, 0, none⟩) s.b.length cap) := k.c 0
theorem RAt.c1 {w : World} {g h cap : Nat} {s : St} (k : RAt w g h cap s) : w.cell? ⟨g, 1, none⟩ = some (.bool (!s.dark)) := k.c 1
theorem RAt.c2 {w : World} {g h cap : Nat} {s : St} (k : RAt w g h cap s) : w.cell? ⟨g, 2, none⟩ = some (.int .i64 (rleft s)) := k.c 2
theorem RAt.c3 {w : World} {g h cap : Nat} {s : St} (k : RAt w g h cap s) : w.cell? ⟨g, 3, none⟩ = some (.int .i64 s.wrote) := k.c 3

set_option maxHeartbeats 400000 in
theorem rwrite_no {w : World} {g h cap : Nat} {s : St} (k : RAt w g h cap s) (a : Int) (t : ByteArray) (hy : ¬ There s.b.length a t.size) :
    Calls Try.prog 33 #[.pointer (some ⟨g, 0, none⟩), .int .i64 a, .string t] w fun e w' => e = .returned (.int .i64 1) ∧ w = w' := by
  go_enter Try.func33, Try.ntmps33
  go_wp2_with (go_at_call 34; refine (rthere_no k a _ hy).mono ?_; rintro e w' ⟨rfl, rfl⟩)
  go_ret
  exact ⟨rfl, rfl⟩

set_option maxHeartbeats 400000 in
theorem rwrite_dark {w : World} {g h cap : Nat} {s : St} (k : RAt w g h cap s) (a : Int) (t : ByteArray) (hy : There s.b.length a t.size) (hd : s.dark = true) :
    Calls Try.prog 33 #[.pointer (some ⟨g, 0, none⟩), .int .i64 a, .string t] w fun e w' => e = .returned (.int .i64 12) ∧ w = w' := by
  have k1 := RAt.c1 k
  rw [hd] at k1
  have K := hide k
  have HY := hide hy
  clear k hy hd
  go_enter Try.func33, Try.ntmps33
  go_wp2_with (go_at_call 34; refine (rthere_yes K.out a _ HY.out).mono ?_; rintro e w' ⟨rfl, rfl⟩)
  go_ret
  exact ⟨rfl, rfl⟩

/-- Where the loop stands: k bytes are written. -/
def St.after (s : St) (a : Int) (t : List UInt8) (k : Nat) : St := { s with b := pasteL s.b a.toNat (t.take k), wrote := s.wrote + k, left := if s.armed then s.left - k else s.left }

theorem after_on {s : St} (a : Int) (t : List UInt8) (k : Nat) (h : s.armed = true) : rleft (s.after a t k) = s.left - k := by simp [rleft, St.after, h]
theorem after_off {s : St} (a : Int) (t : List UInt8) (k : Nat) (h : ¬ s.armed = true) : rleft (s.after a t k) = -1 := by simp [rleft, St.after, h]

theorem after_full {s : St} {a : Int} {t : List UInt8} (hy : There s.b.length a t.length) (hd : s.dark = false) (hm : s.armed = true → (t.length : Int) ≤ s.left) : s.write a t = (0, s.after a t t.length) := by
  cases hA : s.armed
  · simp [St.write, hy, hd, hA, St.after, St.paste, pasteL]
  · have := hm hA
    simp [St.write, hy, hd, hA, this, St.after, St.paste, pasteL]
theorem after_torn {s : St} {a : Int} {t : List UInt8} {n : Nat} (hy : There s.b.length a t.length) (hd : s.dark = false) (hA : s.armed = true) (hl : s.left = n) (hn : n < t.length) :
    s.write a t = (12, { s.after a t n with dark := true, armed := false, left := 0 }) := by
  have : ¬ (t.length : Int) ≤ s.left := by omega
  have h2 : s.left.toNat = n := by omega
  simp [St.write, hy, hd, hA, this, St.after, St.paste, pasteL, h2]
  omega

theorem after_byte {w : World} {g h cap : Nat} {s : St} {a : Int} {t : ByteArray} {n : Nat} (k : RAt w g h cap (s.after a t.data.toList n)) (hy : There s.b.length a t.size) (hn : n < t.size) (v : Value) (hv : v = .int .u8 (t[n].toNat : Int)) :
    BAt 43 (w.setCell ⟨h, (a + n).toNat, none⟩ v).drew g h cap (pasteL s.b a.toNat (t.data.toList.take (n + 1))) [.bool (!s.dark), .int .i64 (rleft (s.after a t.data.toList n)), .int .i64 (s.wrote + n)] := by
  obtain ⟨y1, y2, y3, y4⟩ := hy
  have lt := size_data t
  subst hv
  have e1 : t[n] = t.data.toList[n]'(by omega) := rfl
  have e2 : (a + (n : Int)).toNat = a.toNat + n := by omega
  have lb : (s.after a t.data.toList n).b.length = s.b.length := pasteL_length (by simp; omega)
  have := BAt.byte k (a.toNat + n) (t.data.toList[n]'(by omega)) (by rw [lb]; omega)
  rw [show (s.after a t.data.toList n).b = pasteL s.b a.toNat (t.data.toList.take n) from rfl, pasteL_step (by omega) (by omega)] at this
  rw [e2, e1]
  exact this.same rfl

theorem after_mk {W : World} {g h cap : Nat} {s : St} {a : Int} {t : List UInt8} {n : Nat} {L N : Int} (k : BAt 43 W g h cap (pasteL s.b a.toNat (t.take (n + 1))) [.bool (!s.dark), .int .i64 L, .int .i64 N])
    (hL : rleft (s.after a t (n + 1)) = L) (hN : N = s.wrote + ((n + 1 : Nat) : Int)) : RAt W g h cap (s.after a t (n + 1)) := by
  subst hL; subst hN; exact k

set_option maxHeartbeats 1000000 in
theorem rwrite_on {w : World} {g h cap : Nat} {s : St} (k : RAt w g h cap s) (a : Int) (t : ByteArray) (hy : There s.b.length a t.size) (hd : s.dark = false) (hl : 0 ≤ s.left) (hw0 : 0 ≤ s.wrote) (hw : s.wrote + t.size ≤ 9223372036854775807) (hl1 : s.left ≤ 9223372036854775807) :
    Calls Try.prog 33 #[.pointer (some ⟨g, 0, none⟩), .int .i64 a, .string t] w fun e w' => e = .returned (.int .i64 (s.write a t.data.toList).1) ∧ RAt w' g h cap (s.write a t.data.toList).2 ∧ Only g h w w' := by
  have k1 := RAt.c1 k
  have k2 := RAt.c2 k
  rw [hd] at k1
  have hs := k.small
  obtain ⟨y1, y2, y3, y4⟩ := id hy
  have K := hide k
  have HY := hide hy
  have HD := hide hd
  clear k hy hd
  go_enter Try.func33, Try.ntmps33
  go_wp2_with (go_at_call 34; refine (rthere_yes K.out a _ HY.out).mono ?_; rintro e w' ⟨rfl, rfl⟩)
  go_loopw [7] (fun i wr => ∃ n : Nat, i = .int .i64 n ∧ n ≤ t.size ∧ (s.armed = true → (n : Int) ≤ s.left) ∧ RAt wr g h cap (s.after a t.data.toList n) ∧ Only g h w wr) (fun i _ => t.size - (intOf i).toNat)
  case atStart =>
    refine ⟨0, rfl, Nat.zero_le _, fun _ => by simpa using hl, ?_, Only.refl _ _ _⟩
    have := K.out
    simpa [St.after, pasteL_none, rleft] using this
  case round =>
    obtain ⟨n, rfl, hn, hm, kr, or⟩ := hrel
    have d0 := RAt.c0 kr
    have d2 := RAt.c2 kr
    have d3 := RAt.c3 kr
    have KR := hide kr
    have HM := hide hm
    have lb : (s.after a t.data.toList n).b.length = s.b.length := pasteL_length (by simp; omega)
    rw [lb] at d0
    have d3 : wr.cell? ⟨g, 3, none⟩ = some (.int .i64 (s.wrote + n)) := d3
    clear k1 k2 kr hm
    by_cases hlt : n < t.size
    · have hx : ∃ v, wr.cell? ⟨h, (a + n).toNat, none⟩ = some v := KR.out.some_cell (by omega)
      have hfree := KR.out.free (a + n).toNat (by omega)
      obtain ⟨v0, hcell⟩ := hx
      clear lb
      have hin : (a + (n : Int)).toNat < s.b.length := by omega
      by_cases hA : s.armed = true
      · rw [after_on _ _ _ hA] at d2
        have hle : (n : Int) ≤ s.left := HM.out hA
        have HA := hide hA
        clear hA
        by_cases hz : s.left = n
        · have d1 := RAt.c1 KR.out
          have f1 := KR.out.f 1
          have f2 := KR.out.f 2
          have hz2 : (s.left - (n : Int) == 0) = true := by simp; omega
          have HZ := hide hz
          clear hz
          go_wp2
          go_ret
          have hf := after_torn (a := a) (t := t.data.toList) (by rw [size_data]; exact HY.out) HD.out HA.out HZ.out (by rw [size_data]; exact hlt)
          rw [hf]
          exact ⟨rfl, (KR.out.set 0 (.bool false)).set 1 (.int .i64 (-1)), (or.set g 1 _ (.inl rfl)).set g 2 _ (.inl rfl)⟩
        · have kw := after_byte KR.out HY.out hlt _ rfl
          have ow : Only g h w (wr.setCell ⟨h, (a + n).toNat, none⟩ (.int .u8 (t[n].toNat : Int))).drew := or.trans (((Only.refl g h wr).set h _ _ (.inr rfl)).drewN 1)
          rw [after_on _ _ _ HA.out] at kw
          have hz2 : (s.left - (n : Int) == 0) = false := by simp; omega
          have KW := hide kw; have OW := hide ow
          clear kw ow hz
          go_wp2
          go_region
          have kw := KW.out; have ow := OW.out
          clear KW OW
          generalize (wr.setCell ⟨h, (a + n).toNat, none⟩ (.int .u8 (t[n].toNat : Int))).drew = w2 at kw ow ⊢
          have d2' : w2.cell? ⟨g, 2, none⟩ = some (.int .i64 (s.left - n)) := kw.c 2
          have d3' : w2.cell? ⟨g, 3, none⟩ = some (.int .i64 (s.wrote + n)) := kw.c 3
          have f3' := kw.f 3
          have f2' := kw.f 2
          have hz3 : 0 < s.left - (n : Int) := by simp at hz2; omega
          have KW := hide kw
          clear kw d0 d2 d3 hcell hfree hz2
          go_wp2
          go_roundw
          case rel =>
            refine ⟨n + 1, by go_num, by omega, fun h => by omega, ?_, (ow.set g 3 _ (.inl rfl)).set g 2 _ (.inl rfl)⟩
            exact after_mk ((KW.out.set 2 _).set 1 _) (by rw [after_on _ _ _ HA.out]; omega) (by omega)
          case measure => simp [intOf]; omega
      · rw [after_off _ _ _ hA] at d2
        have HA := hide hA
        have kw := after_byte KR.out HY.out hlt _ rfl
        have ow : Only g h w (wr.setCell ⟨h, (a + n).toNat, none⟩ (.int .u8 (t[n].toNat : Int))).drew := or.trans (((Only.refl g h wr).set h _ _ (.inr rfl)).drewN 1)
        rw [after_off _ _ _ hA] at kw
        have KW := hide kw; have OW := hide ow
        clear kw ow hA
        go_wp2
        go_region
        have kw := KW.out; have ow := OW.out
        clear KW OW
        generalize (wr.setCell ⟨h, (a + n).toNat, none⟩ (.int .u8 (t[n].toNat : Int))).drew = w2 at kw ow ⊢
        have d2' : w2.cell? ⟨g, 2, none⟩ = some (.int .i64 (-1)) := kw.c 2
        have d3' : w2.cell? ⟨g, 3, none⟩ = some (.int .i64 (s.wrote + n)) := kw.c 3
        have f3' := kw.f 3
        have KW := hide kw
        clear kw d0 d2 d3 hcell hfree
        go_wp2
        go_roundw
        case rel =>
          refine ⟨n + 1, by go_num, by omega, fun h => absurd h HA.out, ?_, ow.set g 3 _ (.inl rfl)⟩
          exact after_mk (KW.out.set 2 _) (after_off _ _ _ HA.out) (by omega)
        case measure => simp [intOf]; omega
    · obtain rfl : n = t.size := by omega
      clear d0 d2 d3 lb
      go_wp2
      go_ret
      have hf := after_full (a := a) (t := t.data.toList) (by rw [size_data]; exact HY.out) HD.out (fun hA => by rw [size_data]; exact HM.out hA)
      rw [hf, size_data]
      exact ⟨rfl, KR.out, or⟩
end Go.Proofs.Ytoekemceminciaa
