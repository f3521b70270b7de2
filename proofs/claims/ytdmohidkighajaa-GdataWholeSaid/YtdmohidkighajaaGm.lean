/- The plain law and the walk of GdataPublishes. -/
import Derived.Test.YtdmohidkighajaaGk
namespace Go.Proofs.Ytdmohidkighajaa
open Go.RowKit
set_option linter.unusedVariables false
set_option linter.unusedSimpArgs false

/-- The program's publisher and the reference's. -/
structure PR (P : Pb) (RP : RPb) (fs : List Fr) : Prop where
  ok : P.Ok
  sz : RP.size = P.size
  inc : RP.inc = P.li
  seq : RP.seq = P.ls
  last : RP.last = P.last
  none : P.ls = 0 → P.last = ⟨#[]⟩
  way : fs = if P.left = 0 then [] else (splitL (fV P.wi P.ws) P.way.data.toList).drop P.next.toNat

theorem newPb_ok {n : Nat} {inc : Int} (h1 : 1 ≤ n) (h2 : n ≤ 64) (hi : 0 ≤ inc ∧ inc ≤ 65535) : (newPb n inc).Ok :=
  ⟨by show (1 : Int) ≤ n; omega, by show (n : Int) ≤ 64; omega, fun h => absurd h (show ¬ (0 : Int) < 0 by decide), hi, ⟨Int.le_refl 0, show (0 : Int) ≤ 4294967295 by decide⟩, ⟨Int.le_refl 0, show (0 : Int) ≤ 65535 by decide⟩, ⟨Int.le_refl 0, show (0 : Int) ≤ 4294967295 by decide⟩, Int.le_refl 0, Int.le_refl 0, fun h => absurd rfl h⟩
theorem PR.new {n : Nat} {inc : Int} (h1 : 1 ≤ n) (h2 : n ≤ 64) (hi : 0 ≤ inc ∧ inc ≤ 65535) (v : Value) : PR (newPb n inc) ⟨n, inc, 0, ⟨#[]⟩, v⟩ [] :=
  ⟨newPb_ok h1 h2 hi, rfl, rfl, rfl, rfl, fun _ => rfl, rfl⟩

theorem commit_ok {P : Pb} (ok : P.Ok) (v : ByteArray) : (P.commit v).2.Ok := by
  unfold Pb.commit
  split
  · exact ok
  · rename_i h1
    split
    · exact ok
    · rename_i h2
      have := ok.ls
      exact ⟨ok.z0, ok.z1, fun _ => Classical.byContradiction fun h => h1 h, ok.li, ⟨by show 0 ≤ P.ls + 1; omega, by show P.ls + 1 ≤ 4294967295; omega⟩, ok.wi, ok.ws, ok.next, ok.left, ok.sum⟩
theorem step_ok {P : Pb} (ok : P.Ok) (h : 0 < P.ls) : P.step.Ok := by
  obtain ⟨b1, b2, b3, b4, b5, b6, b7⟩ := begun_facts ok h
  have e1 : P.begun.last = P.last := by unfold Pb.begun; split <;> rfl
  have e2 : P.begun.li = P.li := by unfold Pb.begun; split <;> rfl
  have e3 : P.begun.ls = P.ls := by unfold Pb.begun; split <;> rfl
  exact ⟨by show 1 ≤ P.begun.size; rw [b5]; exact ok.z0, by show P.begun.size ≤ 64; rw [b5]; exact ok.z1, fun hh => by show (P.begun.last.size : Int) = P.begun.size; rw [b5, e1]; exact ok.lsz h, by show 0 ≤ P.begun.li ∧ P.begun.li ≤ 65535; rw [e2]; exact ok.li, by show 0 ≤ P.begun.ls ∧ P.begun.ls ≤ 4294967295; rw [e3]; exact ok.ls, b6, b7, by show 0 ≤ P.begun.next + 1; omega, by show 0 ≤ P.begun.left - 1; omega, fun hh => ⟨by show P.begun.next + 1 + (P.begun.left - 1) = nParts P.begun.size; rw [b5]; omega, by show (P.begun.way.size : Int) = P.begun.size; rw [b5]; exact b4⟩⟩

/-- Commit: both answer alike. -/
theorem PR.commit {P : Pb} {RP : RPb} {fs : List Fr} (h : PR P RP fs) (v : ByteArray) :
    (if (v.size : Int) ≠ RP.size then (10 : Int) else if RP.seq = 4294967295 then 13 else 0) = (P.commit v).1 ∧
    PR (P.commit v).2 (if (v.size : Int) ≠ RP.size then RP else if RP.seq = 4294967295 then RP else { RP with last := v, seq := RP.seq + 1 }) fs ∧
    (if (v.size : Int) ≠ RP.size then RP else if RP.seq = 4294967295 then RP else { RP with last := v, seq := RP.seq + 1 }).way = RP.way ∧ (P.commit v).2.li = P.li := by
  have hok := commit_ok h.ok v
  unfold Pb.commit at hok ⊢
  rw [h.sz, h.seq]
  by_cases e1 : (v.size : Int) ≠ P.size
  · simp only [if_pos e1]; exact ⟨trivial, h, trivial, trivial⟩
  · simp only [if_neg e1] at hok ⊢
    by_cases e2 : P.ls = 4294967295
    · simp only [if_pos e2]; exact ⟨trivial, h, trivial, trivial⟩
    · simp only [if_neg e2] at hok ⊢
      exact ⟨trivial, ⟨hok, rfl, h.inc, rfl, rfl, fun hh => by (have := h.ok.ls; have hh : P.ls + 1 = 0 := hh; omega), h.way⟩, trivial, trivial⟩

/-- Next: both give one frame. -/
theorem PR.next {P : Pb} {RP : RPb} {fs : List Fr} (h : PR P RP fs) (hs : 0 < P.ls) : ∃ rest, RP.begun fs = P.frame :: rest ∧ ∀ v', PR P.step { RP with way := v' } rest := by
  have hok := step_ok h.ok hs
  obtain ⟨b1, b2, b3, b4, b5, b6, b7⟩ := begun_facts h.ok hs
  obtain ⟨m, hm⟩ : ∃ m : Nat, P.begun.next = m := ⟨P.begun.next.toNat, by omega⟩
  have hlen : (P.begun.way.data.toList.length : Int) = P.size := by rw [size_data]; exact b4
  have hg := splitL_get (fV P.begun.wi P.begun.ws) P.begun.way.data.toList m (by rw [hlen]; omega)
  have hl := splitL_len (fV P.begun.wi P.begun.ws) P.begun.way.data.toList
  rw [hlen] at hg hl
  have hm4 : m < (splitL (fV P.begun.wi P.begun.ws) P.begun.way.data.toList).length := by rw [hl]; omega
  have hd : (splitL (fV P.begun.wi P.begun.ws) P.begun.way.data.toList).drop m = P.frame :: (splitL (fV P.begun.wi P.begun.ws) P.begun.way.data.toList).drop (m + 1) := by
    rw [List.drop_eq_getElem_cons hm4]
    congr 1
    have := List.getElem?_eq_getElem hm4
    rw [hg] at this
    have := Option.some.inj this
    rw [← this]
    unfold Pb.frame
    rw [hm, Int.toNat_natCast]
  have hbeg : RP.begun fs = (splitL (fV P.begun.wi P.begun.ws) P.begun.way.data.toList).drop m := by
    unfold RPb.begun
    by_cases h0 : P.left = 0
    · have e : P.begun = { P with way := P.last, wi := P.li, ws := P.ls, next := 0, left := nParts P.size } := if_pos h0
      have hf := h.way
      rw [if_pos h0] at hf
      have m0 : m = 0 := by rw [e] at hm; simp at hm; omega
      rw [if_pos hf, m0, List.drop_zero, e, h.inc, h.seq, h.last]
    · have e : P.begun = P := if_neg h0
      have hf := h.way
      rw [if_neg h0] at hf
      have m1 : P.next.toNat = m := by rw [e] at hm; omega
      rw [m1] at hf
      rw [e] at hm4 ⊢
      have hne : fs ≠ [] := by
        rw [hf]
        intro hh
        have := congrArg List.length hh
        rw [List.length_drop] at this
        simp at this
        omega
      rw [if_neg hne, hf]
  refine ⟨_, hbeg.trans hd, fun v' => ⟨hok, by show RP.size = P.begun.size; rw [b5]; exact h.sz, ?_, ?_, ?_, fun hh => ?_, ?_⟩⟩
  · show RP.inc = P.begun.li
    rw [show P.begun.li = P.li by unfold Pb.begun; split <;> rfl]; exact h.inc
  · show RP.seq = P.begun.ls
    rw [show P.begun.ls = P.ls by unfold Pb.begun; split <;> rfl]; exact h.seq
  · show RP.last = P.begun.last
    rw [show P.begun.last = P.last by unfold Pb.begun; split <;> rfl]; exact h.last
  · exfalso
    have e : P.begun.ls = P.ls := by unfold Pb.begun; split <;> rfl
    have hh : P.begun.ls = 0 := hh
    omega
  · show _ = if P.begun.left - 1 = 0 then [] else (splitL (fV P.begun.wi P.begun.ws) P.begun.way.data.toList).drop (P.begun.next + 1).toNat
    rw [hm]
    by_cases h1 : P.begun.left - 1 = 0
    · rw [if_pos h1]
      exact List.drop_eq_nil_of_le (by rw [hl]; omega)
    · rw [if_neg h1, show ((m : Int) + 1).toNat = m + 1 by omega]

theorem PR.len {P : Pb} {RP : RPb} {fs : List Fr} (h : PR P RP fs) : (fs.length : Int) = P.left := by
  have hw := h.way
  by_cases h0 : P.left = 0
  · rw [if_pos h0] at hw; rw [hw, h0]; rfl
  · rw [if_neg h0] at hw
    have := h.ok.sum h0
    have hl := splitL_len (fV P.wi P.ws) P.way.data.toList
    rw [size_data, this.2] at hl
    have hn := h.ok.next
    have hle := h.ok.left
    rw [hw, List.length_drop, hl]
    omega

/-- Strings that came in, by index. -/
def StrsIn (W : World) (A : Option Addr) (n : Nat) : Prop := ∀ i, i < n → ∃ (a : Addr) (s : ByteArray), A = some a ∧ a.block < W.heap.size ∧ W.cell? (a.add i) = some (.string s)
theorem StrsIn.below {W w : World} {A : Option Addr} {n : Nat} (h : StrsIn W A n) (b : Below W.heap.size W w) : StrsIn w A n := by
  intro i hi
  obtain ⟨a, s, e, hb, hc⟩ := h i hi
  refine ⟨a, s, e, Nat.lt_of_lt_of_le hb b.size, ?_⟩
  rw [World.cell?_of_block (w := W) (b.block _ (by rw [block_add]; exact hb)), hc]

set_option maxHeartbeats 1000000 in
set_option maxRecDepth 20000 in
theorem gpubs_long (size inc : Int) (A : Option Addr) (nl cl : Nat) (w : World) (hbig : 80 < nl) :
    Calls Try.prog 6 #[.int .i64 size, .int .u16 inc, .slice A nl cl] w fun e w' => e = .returned (.bool true) ∧ Below w.heap.size w w' := by
  have HAW := hide (awake18_any w)
  go_enter Try.func6, Try.ntmps6
  go_upto_region 3 with (go_at_call 7; refine HAW.out.mono ?_; rintro e w1 ⟨rfl, hb1⟩)
  have HB1 := hide hb1
  clear hb1
  go_wp2_with fail
  go_ret
  exact ⟨rfl, HB1.out⟩

set_option maxHeartbeats 1000000 in
set_option maxRecDepth 20000 in
theorem gpubs_bad (size inc : Int) (hs : ¬ (1 ≤ size ∧ size ≤ 64)) (A : Option Addr) (nl cl : Nat) (w : World) (hbig : nl ≤ 80) :
    Calls Try.prog 6 #[.int .i64 size, .int .u16 inc, .slice A nl cl] w fun e w' => e = .returned (.bool true) ∧ Below w.heap.size w w' := by
  have HAW := hide (awake18_any w)
  have HN := hide (fun w => pnew_no size inc w hs)
  have HX := hide (fun w => pnext_nil w)
  go_enter Try.func6, Try.ntmps6
  go_upto_region 6 with (first
    | (go_at_call 7; refine HAW.out.mono ?_; rintro e w1 ⟨rfl, hb1⟩; have HB1 := hide hb1; clear hb1)
    | (go_at_call 8; refine (HN.out _).mono ?_; rintro e w' ⟨rfl, rfl⟩))
  by_cases c1 : size < 1
  · go_upto_region 8 with (first
      | (go_at_call 11; refine (HX.out _).mono ?_; rintro e w2 ⟨rfl, hb2⟩)
      | (refine wpList_store_new rfl 36 _ _ rfl w2 36 _ (frV zFr) rfl rfl (by kernel_rfl) rfl (frV_one zFr) ?_))
    go_wp2_with (first
      | (go_at_call 13; refine (pcommit_nil _ _).mono ?_; rintro e w' ⟨rfl, rfl⟩)
      | (go_at_call 14; refine (pleft_nil _).mono ?_; rintro e w' ⟨rfl, rfl⟩))
    go_ret
    exact ⟨rfl, (HB1.out.trans (hb2.mono HB1.out.size)).alloc (by have := HB1.out.size; have := hb2.size; omega) _⟩
  · have c2 : 64 < size := by omega
    go_upto_region 8 with (first
      | (go_at_call 11; refine (HX.out _).mono ?_; rintro e w2 ⟨rfl, hb2⟩)
      | (refine wpList_store_new rfl 36 _ _ rfl w2 36 _ (frV zFr) rfl rfl (by kernel_rfl) rfl (frV_one zFr) ?_))
    go_wp2_with (first
      | (go_at_call 13; refine (pcommit_nil _ _).mono ?_; rintro e w' ⟨rfl, rfl⟩)
      | (go_at_call 14; refine (pleft_nil _).mono ?_; rintro e w' ⟨rfl, rfl⟩))
    go_ret
    exact ⟨rfl, (HB1.out.trans (hb2.mono HB1.out.size)).alloc (by have := HB1.out.size; have := hb2.size; omega) _⟩

theorem frame_neq2 (f : Fr) (w : World) : (binOp .neq 36 (.agg (frV f)) (.agg (frV f))).run Try.prog w = .ok (.bool false) w := by
  rw [run_neq_struct, frame_same]
  rfl
theorem neqV2 (a b : Int) (W : World) : (binOp .neq 34 (.agg #[.int .u16 a, .int .u32 b]) (.agg #[.int .u16 a, .int .u32 b])).run Try.prog W = .ok (.bool false) W := by
  rw [run_neq_struct, eqV 9998 W a a b b]
  simp
/-- Both publishers in memory. -/
def PW (B : Nat) (w : World) (p q : Nat) (inc : Int) : Prop := ∃ P RP fs, PAt w p P ∧ RPAt w q RP ∧ WayAt w B RP.way fs ∧ PR P RP fs ∧ P.li = inc
theorem PW.below {B : Nat} {w w' : World} {p q : Nat} {inc : Int} (h : PW B w p q inc) (b : Below w.heap.size w w') : PW B w' p q inc := by
  obtain ⟨P, RP, fs, h1, h2, h3, h4, h5⟩ := h
  exact ⟨P, RP, fs, blk_below h1 b, blk_below h2 b, h3.below b, h4, h5⟩

/-- Next of both, whichever way. -/
theorem next_both {B : Nat} {wr : World} {p q : Nat} {P : Pb} {RP : RPb} {fs : List Fr} (kp : PAt wr p P) (hpr : PR P RP fs) (hq : q < B) :
    ∃ (F : Fr) (b : Bool) (P' : Pb) (fs' : List Fr), (Calls Try.prog 11 #[.pointer (some ⟨p, 0, none⟩)] wr fun e w' => e = .returned (.tuple #[.agg (frV F), .bool b]) ∧ PAt w' p P' ∧ Only p p wr w') ∧
      (∀ W, RPAt W q RP → WayAt W B RP.way fs → B ≤ W.heap.size → Calls Try.prog 25 #[.pointer (some ⟨q, 0, none⟩)] W fun e w' => e = .returned (.tuple #[.agg (frV F), .bool b]) ∧ (∃ v', RPAt w' q { RP with way := v' } ∧ WayAt w' B v' fs') ∧ Only q q W w') ∧
      (∀ v', PR P' { RP with way := v' } fs') ∧ P'.li = P.li := by
  by_cases hs : 0 < P.ls
  · obtain ⟨rest, h1, h2⟩ := hpr.next hs
    refine ⟨P.frame, true, P.step, rest, pnext_yes kp hpr.ok hs, fun W hW hw hB => ?_, h2, by show P.begun.li = P.li; unfold Pb.begun; split <;> rfl⟩
    exact rpnext_yes hW hw hB (by rw [hpr.seq]; exact hs) h1 hq
  · have h0 : P.ls = 0 := by have := hpr.ok.ls; omega
    refine ⟨zFr, false, P, fs, (pnext_no kp h0).mono fun e w' ⟨he, hb⟩ => ⟨he, blk_below kp hb, Below.only hb⟩, fun W hW hw hB => ?_, fun v' => ⟨hpr.ok, hpr.sz, hpr.inc, hpr.seq, hpr.last, hpr.none, hpr.way⟩, rfl⟩
    exact (rpnext_no hW (by rw [hpr.seq]; exact h0)).mono fun e w' ⟨he, hb⟩ => ⟨he, ⟨RP.way, blk_below hW hb, hw.below hb⟩, Below.only hb⟩

attribute [local go_sem] ofL_toList
set_option maxHeartbeats 4000000 in
set_option maxRecDepth 20000 in
theorem gpubs_any (n : Nat) (inc : Int) (hn1 : 1 ≤ n) (hn2 : n ≤ 64) (hi : 0 ≤ inc ∧ inc ≤ 65535) (A : Option Addr) (nl cl : Nat) (w : World) (hbig : nl ≤ 80) (hS : StrsIn w A nl) :
    Calls Try.prog 6 #[.int .i64 n, .int .u16 inc, .slice A nl cl] w fun e w' => e = .returned (.bool true) ∧ Below w.heap.size w w' := by
  have HAW := hide (awake18_any w)
  have HN := hide (fun w => pnew_yes n inc w (by omega) (by omega))
  have HS := hide hS
  have HI := hide hi
  clear hS hi
  go_enter Try.func6, Try.ntmps6
  go_upto_region 6 with (first
    | (go_at_call 7; refine HAW.out.mono ?_; rintro e w1 ⟨rfl, hb1⟩; have HB1 := hide hb1; clear hb1)
    | (go_at_call 8; refine (HN.out _).mono ?_; rintro e w2 ⟨rfl, k2, hb2⟩))
  have hz1 := HB1.out.size
  have hp2 := blk_lt k2
  have HB2 := hide (HB1.out.trans (hb2.mono hz1))
  have K2 := hide k2
  generalize hp : w1.heap.size = p at K2 hp2 ⊢
  clear k2 hb2 HB1 HAW HN
  go_upto_region 10 with (refine wpList_buildTo rfl 73 _ rfl _ rfl (rpV ⟨n, inc, 0, ⟨#[]⟩, .slice none 0 0⟩) (by kernel_rfl) ?_)
  have hb3 : Below w2.heap.size w2 (w2.alloc (.cells (rpV ⟨n, inc, 0, ⟨#[]⟩, .slice none 0 0⟩) 73)) := (Below.refl _ _).alloc (Nat.le_refl _) _
  have hq3 : RPAt (w2.alloc (.cells (rpV ⟨n, inc, 0, ⟨#[]⟩, .slice none 0 0⟩) 73)) w2.heap.size ⟨n, inc, 0, ⟨#[]⟩, .slice none 0 0⟩ := heap_alloc_new w2 _
  have hql := blk_lt hq3
  have hpw : PW (w2.alloc (.cells (rpV ⟨n, inc, 0, ⟨#[]⟩, .slice none 0 0⟩) 73)).heap.size (w2.alloc (.cells (rpV ⟨n, inc, 0, ⟨#[]⟩, .slice none 0 0⟩) 73)) p w2.heap.size inc :=
    ⟨_, _, [], blk_below K2.out hb3, hq3, ⟨none, 0, rfl, Nat.le_refl _, fun a ha => (by cases ha), fun h => absurd rfl h⟩, PR.new hn1 hn2 HI.out _, rfl⟩
  have hz2 := HB2.out.size
  have HPW := hide hpw
  have HB3 := hide (HB2.out.trans (hb3.mono hz2))
  clear hb3 hq3 hpw HB2 K2
  generalize hq : w2.heap.size = q at HPW hql hp2 hz2 ⊢
  generalize w2.alloc (.cells (rpV ⟨n, inc, 0, ⟨#[]⟩, .slice none 0 0⟩) 73) = w3 at HPW HB3 hql ⊢
  go_wp2_with fail
  go_loopw [62] (fun i wr => ∃ k : Nat, i = .int .i64 k ∧ k ≤ nl ∧ Below w.heap.size w wr ∧ PW w3.heap.size wr p q inc ∧ w3.heap.size ≤ wr.heap.size) (fun i _ => nl - (intOf i).toNat)
  case atStart => exact ⟨0, rfl, Nat.zero_le _, HB3.out, HPW.out, Nat.le_refl _⟩
  case round =>
    obtain ⟨k, rfl, hk, hbr, hpw, hsz⟩ := hrel
    have HBR := hide hbr
    have HPW := hide hpw
    clear hbr hpw HB3
    by_cases hlt : k < nl
    · obtain ⟨a, s, rfl, hab, hac⟩ := (HS.out.below HBR.out) k hlt
      go_upto_region 13 with fail
      by_cases h100 : 100 < s.size
      · go_wp2_with fail
        go_ret
        exact ⟨rfl, HBR.out⟩
      · obtain ⟨l, rfl⟩ : ∃ l, s = ofL l := ⟨s.data.toList, (ofL_of s).symm⟩
        clear hac
        go_upto_if 70 with fail
        go_cut [] (fun wc => Below w.heap.size w wc ∧ PW w3.heap.size wc p q inc ∧ w3.heap.size ≤ wc.heap.size)
        case first =>
          obtain ⟨P, RP, fs, kp, kq, kw, hpr, hli⟩ := HPW.out
          have hpq : p ≠ q := by omega
          cases hx : l.isEmpty
          · obtain ⟨c1, c2, c3, c4⟩ := hpr.commit (ofL l)
            have hok := hpr.ok.ls
            have h1 := pcommit_any kp hok.1 hok.2 (ofL l)
            have h2 : ∀ W, RPAt W q RP → Calls Try.prog 24 #[.pointer (some ⟨q, 0, none⟩), .string (ofL l)] W fun e w' => e = .returned (.int .i64 (P.commit (ofL l)).1) ∧
                RPAt w' q (if ((ofL l).size : Int) ≠ RP.size then RP else if RP.seq = 4294967295 then RP else { RP with last := ofL l, seq := RP.seq + 1 }) ∧ Only q q W w' := by
              intro W hW
              have := rpcommit_any hW (by rw [hpr.seq]; exact hok.1) (by rw [hpr.seq]; exact hok.2) (ofL l)
              rw [c1] at this
              exact this
            have H1 := hide h1; have H2 := hide h2; have C2 := hide c2; have C3 := hide c3; have C4 := hide c4; have KQ := hide kq; have KW := hide kw; have HLI := hide hli
            clear h1 h2 c1 c2 c3 c4 kp kq kw hpr hok hli
            generalize (if ((ofL l).size : Int) ≠ RP.size then RP else if RP.seq = 4294967295 then RP else { RP with last := ofL l, seq := RP.seq + 1 }) = RP' at H2 C2 C3
            generalize (P.commit (ofL l)).2 = P' at H1 C2 C4
            generalize (P.commit (ofL l)).1 = e1 at H1 H2
            go_wp2_with (first
              | (go_at_call 13; refine H1.out.mono ?_; rintro e w5 ⟨rfl, k5, o5⟩)
              | (go_at_call 24; refine (H2.out _ (blk_only KQ.out o5 hpq.symm hpq.symm)).mono ?_; rintro e w6 ⟨rfl, k6, o6⟩))
            go_meet
            case rel =>
              have hz5 := o5.size
              have hz6 := o6.size
              have b5 : Below w.heap.size w w5 := Only.below HBR.out o5 (by omega) (by omega) (by omega)
              exact ⟨Only.below b5 o6 (by omega) (by omega) (by omega), ⟨P', RP', fs, blk_only k5 o6 hpq hpq, k6, by rw [C3.out]; exact (KW.out.only o5 (by omega) (by omega)).only o6 (by omega) (by omega), C2.out, by rw [C4.out, HLI.out]⟩, by omega⟩
          · obtain ⟨F, b, P', fs', h1, h2, h3, h4⟩ := next_both kp hpr (show q < w3.heap.size by omega)
            have H1 := hide h1; have H2 := hide h2; have H3 := hide h3; have H4 := hide h4; have KQ := hide kq; have KW := hide kw; have HLI := hide hli
            have ne := fun W => frame_neq2 F W
            clear h1 h2 h3 h4 kq kw hli hpr kp
            go_upto_region 19 with (first
              | (go_at_call 11; refine H1.out.mono ?_; rintro e w5 ⟨rfl, k5, o5⟩)
              | (refine wpList_store_new rfl 36 _ _ rfl w5 36 _ (frV F) rfl rfl (by kernel_rfl) rfl (frV_one F) ?_))
            have hz5 := o5.size
            have hb5 : Below w5.heap.size w5 (w5.alloc (.cells (frV F) 36)) := (Below.refl _ _).alloc (Nat.le_refl _) _
            have hx5 : (w5.alloc (.cells (frV F) 36)).heap[w5.heap.size]? = some (.cells (frV F) 36 (0, 0)) := heap_alloc_new w5 _
            have hlx := blk_lt hx5
            have kq5 := blk_below (blk_only KQ.out o5 hpq.symm hpq.symm) hb5
            have kw5 := (KW.out.only o5 (by omega) (by omega)).below hb5
            have hz55 := hb5.size
            have hrn := H2.out _ kq5 kw5 (by omega)
            have b5 : Below w.heap.size w (w5.alloc (.cells (frV F) 36)) := (Only.below HBR.out o5 (by omega) (by omega) (by omega)).trans (hb5.mono (by omega))
            have HRN := hide hrn; have HX5 := hide hx5; have B5 := hide b5; have K5 := hide (blk_below k5 hb5)
            clear hrn hx5 b5 k5 kq5 kw5 o5 hb5 H1 H2 KQ KW
            generalize hw6 : w5.alloc (.cells (frV F) 36) = w6 at HRN HX5 B5 K5 hlx hz55 ⊢
            clear hw6
            generalize hx : w5.heap.size = x at HX5 hlx hz55 hz5 ⊢
            clear hx
            go_upto_region 20 with (first
              | (go_at_call 25; refine HRN.out.mono ?_; rintro e w7 ⟨rfl, ⟨v', k7, kw7⟩, o7⟩)
              | (refine wpList_store_new rfl 36 _ _ rfl w7 36 _ (frV F) rfl rfl (by kernel_rfl) rfl (frV_one F) ?_))
            have hz7 := o7.size
            have hb7 : Below w7.heap.size w7 (w7.alloc (.cells (frV F) 36)) := (Below.refl _ _).alloc (Nat.le_refl _) _
            have hx7 : (w7.alloc (.cells (frV F) 36)).heap[w7.heap.size]? = some (.cells (frV F) 36 (0, 0)) := heap_alloc_new w7 _
            have hy7 := blk_below (blk_only HX5.out o7 (by omega) (by omega)) hb7
            have hz77 := hb7.size
            have b7 : Below w.heap.size w (w7.alloc (.cells (frV F) 36)) := (Only.below B5.out o7 (by omega) (by omega) (by omega)).trans (hb7.mono (by omega))
            have hpw7 : PW w3.heap.size (w7.alloc (.cells (frV F) 36)) p q inc := ⟨P', _, fs', blk_below (blk_only K5.out o7 hpq hpq) hb7, blk_below k7 hb7, kw7.below hb7, H3.out v', by rw [H4.out, HLI.out]⟩
            have B7 := hide b7; have HPW7 := hide hpw7
            clear hb7 b7 hpw7 k7 kw7 o7 HRN HX5 B5 K5 H3 H4
            go_wp2_with (first
              | (refine wpList_load_row rfl 36 _ rfl _ rfl 36 (frV F) (0, 0) _ hy7 Try.underlying36 rfl (by kernel_rfl) ?_)
              | (refine wpList_load_row rfl 36 _ rfl _ rfl 36 (frV F) (0, 0) _ hx7 Try.underlying36 rfl (by kernel_rfl) ?_))
            go_meet
            case rel => exact ⟨B7.out, HPW7.out, by omega⟩
        case rest =>
          obtain ⟨hbr4, hpw4, hsz4⟩ := hcut
          obtain ⟨w4, rfl⟩ : ∃ w4 : World, w4 = wc := ⟨_, rfl⟩
          have HBR4 := hide hbr4; have HPW4 := hide hpw4
          obtain ⟨P, RP, fs, kp, kq, kw, hpr, hli⟩ := hpw4
          have HPR := hide hpr; have HLI := hide hli; have KP := hide kp; have KQ := hide kq; have HKW := hide kw
          clear hbr4 kp kq kw hpr hli HPW HBR
          by_cases hs : 0 < P.ls
          · have hl : Calls Try.prog 22 #[.pointer (some ⟨p, 0, none⟩)] w4 fun e w' => e = .returned (.tuple #[.string P.last, .agg #[.int .u16 inc, .int .u32 P.ls], .bool true]) ∧ Below w4.heap.size w4 w' := by
              have := plast_any KP.out
              rw [if_pos hs, HLI.out] at this
              exact this
            have HL := hide hl
            clear hl
            have q2 : w4.cell? ⟨q, 2, none⟩ = some (.int .u32 P.ls) := by rw [← HPR.out.seq]; exact blk_cell KQ.out 2
            have hz0 : (P.ls == 0) = false := by simp; omega
            have hql4 := blk_lt KQ.out
            go_upto_region 23 with (go_at_call 22; refine HL.out.mono ?_; rintro e w5 ⟨rfl, b5⟩)
            have hz5 := b5.size
            have hb6 : Below w5.heap.size w5 (w5.alloc (.cells #[.int .u16 inc, .int .u32 P.ls] 34)) := (Below.refl _ _).alloc (Nat.le_refl _) _
            have hv6 : (w5.alloc (.cells #[.int .u16 inc, .int .u32 P.ls] 34)).heap[w5.heap.size]? = some (.cells #[.int .u16 inc, .int .u32 P.ls] 34 (0, 0)) := heap_alloc_new w5 _
            have b6 := b5.trans (hb6.mono hz5)
            have HB6 := hide b6; have HV6 := hide hv6
            have hvl := blk_lt hv6
            clear b5 hb6 hv6 b6 HL q2
            generalize hw6 : w5.alloc (.cells #[.int .u16 inc, .int .u32 P.ls] 34) = w6 at HB6 HV6 hvl ⊢
            clear hw6
            generalize hv : w5.heap.size = v at HV6 hvl hz5 ⊢
            clear hv
            have q2 : w6.cell? ⟨q, 2, none⟩ = some (.int .u32 P.ls) := by rw [← HPR.out.seq]; exact blk_cell (blk_below KQ.out HB6.out) 2
            have hql6 : q < w6.heap.size := by omega
            go_upto_region 26 with fail
            have hb8 : Below w6.heap.size w6 (w6.alloc (.cells #[.int .u16 inc, .int .u32 P.ls] 34)) := (Below.refl _ _).alloc (Nat.le_refl _) _
            have hu8 : (w6.alloc (.cells #[.int .u16 inc, .int .u32 P.ls] 34)).heap[w6.heap.size]? = some (.cells #[.int .u16 inc, .int .u32 P.ls] 34 (0, 0)) := heap_alloc_new w6 _
            have hv8 := blk_below HV6.out hb8
            have b48 := HB6.out.trans (hb8.mono HB6.out.size)
            have kq8 := blk_below KQ.out b48
            have kp8 := blk_below KP.out b48
            have HPW8 := hide (HPW4.out.below b48)
            have HB8 := hide (HBR4.out.trans (b48.mono HBR4.out.size))
            have hul := blk_lt hu8
            have hvl8 := blk_lt hv8
            have hql8 := blk_lt kq8
            have hsz8 : w3.heap.size ≤ (w6.alloc (.cells #[.int .u16 inc, .int .u32 P.ls] 34)).heap.size := by have := b48.size; omega
            clear hb8 b48 q2 HV6 HB6
            generalize hw8 : w6.alloc (.cells #[.int .u16 inc, .int .u32 P.ls] 34) = w8 at hu8 hv8 kq8 kp8 HPW8 HB8 hul hvl8 hql8 hsz8 ⊢
            clear hw8
            generalize hu : w6.heap.size = u at hu8 hul hvl hql6 ⊢
            clear hu
            obtain ⟨A2, c2, hway, hlc, -, -⟩ := HKW.out
            have q2 : w8.cell? ⟨q, 2, none⟩ = some (.int .u32 P.ls) := by rw [← HPR.out.seq]; exact blk_cell kq8 2
            have q3 : w8.cell? ⟨q, 3, none⟩ = some (.string P.last) := by rw [show P.last = RP.last from HPR.out.last.symm]; exact blk_cell kq8 3
            have q4 : w8.cell? ⟨q, 4, none⟩ = some (.slice A2 fs.length c2) := by rw [← hway]; exact blk_cell kq8 4
            have v0 : w8.cell? ⟨v, 0, none⟩ = some (.int .u16 inc) := blk_cell hv8 0
            have v1 : w8.cell? ⟨v, 1, none⟩ = some (.int .u32 P.ls) := blk_cell hv8 1
            have u0 : w8.cell? ⟨u, 0, none⟩ = some (.int .u16 inc) := blk_cell hu8 0
            have u1 : w8.cell? ⟨u, 1, none⟩ = some (.int .u32 P.ls) := blk_cell hu8 1
            have hlen : (P.left != (fs.length : Int)) = false := by rw [HPR.out.len]; simp
            have hgt : decide (0 < P.ls) = true := by simpa using hs
            have ne := fun W => neqV2 inc P.ls W
            have hleft : ∀ W, Below w8.heap.size w8 W → Calls Try.prog 14 #[.pointer (some ⟨p, 0, none⟩)] W fun e w' => e = .returned (.int .i64 P.left) ∧ W = w' := fun W hW => pleft_any (blk_below kp8 hW)
            have HLEFT := hide hleft
            clear hleft hway kq8 kp8 hu8 hv8
            go_region_held3 (fun w' => (∀ b o, b < w8.heap.size → w'.cell? ⟨b, o, none⟩ = w8.cell? ⟨b, o, none⟩) ∧ Below w8.heap.size w8 w')
              (first | exact BS.drew _ | assumption)
              ((go_at_call 14; refine (HLEFT.out _ (And.right (by assumption))).mono ?_; rintro e w' ⟨rfl, rfl⟩))
            obtain ⟨_, hB⟩ := ‹(∀ b o, b < w8.heap.size → _) ∧ Below w8.heap.size w8 _›
            have HPW9 := hide (HPW8.out.below hB)
            have HB9 := hide (HB8.out.trans (hB.mono HB8.out.size))
            have hz9 := hB.size
            clear hB ne
            go_wp2_with fail
            go_roundw
            case rel => exact ⟨k + 1, by go_num, by omega, HB9.out, HPW9.out, by omega⟩
            case measure => simp [intOf]; omega
          · have hl : Calls Try.prog 22 #[.pointer (some ⟨p, 0, none⟩)] w4 fun e w' => e = .returned (.tuple #[.string ⟨#[]⟩, .agg #[.int .u16 0, .int .u32 0], .bool false]) ∧ Below w4.heap.size w4 w' := by
              have := plast_any KP.out
              rw [if_neg hs] at this
              exact this
            have HL := hide hl
            clear hl
            have q2 : w4.cell? ⟨q, 2, none⟩ = some (.int .u32 P.ls) := by rw [← HPR.out.seq]; exact blk_cell KQ.out 2
            have hz0 : (P.ls == 0) = true := by have := HPR.out.ok.ls; simp; omega
            have hql4 := blk_lt KQ.out
            go_upto_region 23 with (go_at_call 22; refine HL.out.mono ?_; rintro e w5 ⟨rfl, b5⟩)
            have hz5 := b5.size
            have hb6 : Below w5.heap.size w5 (w5.alloc (.cells #[.int .u16 0, .int .u32 0] 34)) := (Below.refl _ _).alloc (Nat.le_refl _) _
            have hv6 : (w5.alloc (.cells #[.int .u16 0, .int .u32 0] 34)).heap[w5.heap.size]? = some (.cells #[.int .u16 0, .int .u32 0] 34 (0, 0)) := heap_alloc_new w5 _
            have b6 := b5.trans (hb6.mono hz5)
            have HB6 := hide b6; have HV6 := hide hv6
            have hvl := blk_lt hv6
            clear b5 hb6 hv6 b6 HL q2
            generalize hw6 : w5.alloc (.cells #[.int .u16 0, .int .u32 0] 34) = w6 at HB6 HV6 hvl ⊢
            clear hw6
            generalize hv : w5.heap.size = v at HV6 hvl hz5 ⊢
            clear hv
            have q2 : w6.cell? ⟨q, 2, none⟩ = some (.int .u32 P.ls) := by rw [← HPR.out.seq]; exact blk_cell (blk_below KQ.out HB6.out) 2
            have hql6 : q < w6.heap.size := by omega
            go_upto_region 26 with fail
            have hb8 : Below w6.heap.size w6 (w6.alloc (.cells #[.int .u16 0, .int .u32 0] 34)) := (Below.refl _ _).alloc (Nat.le_refl _) _
            have hu8 : (w6.alloc (.cells #[.int .u16 0, .int .u32 0] 34)).heap[w6.heap.size]? = some (.cells #[.int .u16 0, .int .u32 0] 34 (0, 0)) := heap_alloc_new w6 _
            have hv8 := blk_below HV6.out hb8
            have b48 := HB6.out.trans (hb8.mono HB6.out.size)
            have kq8 := blk_below KQ.out b48
            have kp8 := blk_below KP.out b48
            have HPW8 := hide (HPW4.out.below b48)
            have HB8 := hide (HBR4.out.trans (b48.mono HBR4.out.size))
            have hul := blk_lt hu8
            have hvl8 := blk_lt hv8
            have hql8 := blk_lt kq8
            have hsz8 : w3.heap.size ≤ (w6.alloc (.cells #[.int .u16 0, .int .u32 0] 34)).heap.size := by have := b48.size; omega
            clear hb8 b48 q2 HV6 HB6
            generalize hw8 : w6.alloc (.cells #[.int .u16 0, .int .u32 0] 34) = w8 at hu8 hv8 kq8 kp8 HPW8 HB8 hul hvl8 hql8 hsz8 ⊢
            clear hw8
            generalize hu : w6.heap.size = u at hu8 hul hvl hql6 ⊢
            clear hu
            obtain ⟨A2, c2, hway, hlc, -, -⟩ := HKW.out
            have q2 : w8.cell? ⟨q, 2, none⟩ = some (.int .u32 P.ls) := by rw [← HPR.out.seq]; exact blk_cell kq8 2
            have q3 : w8.cell? ⟨q, 3, none⟩ = some (.string ⟨#[]⟩) := by rw [show ⟨#[]⟩ = RP.last from ((HPR.out.none (by have := HPR.out.ok.ls; omega)).symm.trans HPR.out.last.symm)]; exact blk_cell kq8 3
            have q4 : w8.cell? ⟨q, 4, none⟩ = some (.slice A2 fs.length c2) := by rw [← hway]; exact blk_cell kq8 4
            have v0 : w8.cell? ⟨v, 0, none⟩ = some (.int .u16 0) := blk_cell hv8 0
            have v1 : w8.cell? ⟨v, 1, none⟩ = some (.int .u32 0) := blk_cell hv8 1
            have u0 : w8.cell? ⟨u, 0, none⟩ = some (.int .u16 0) := blk_cell hu8 0
            have u1 : w8.cell? ⟨u, 1, none⟩ = some (.int .u32 0) := blk_cell hu8 1
            have hlen : (P.left != (fs.length : Int)) = false := by rw [HPR.out.len]; simp
            have hgt : decide (0 < P.ls) = false := by simpa using hs
            have ne := fun W => neqV2 0 0 W
            have hleft : ∀ W, Below w8.heap.size w8 W → Calls Try.prog 14 #[.pointer (some ⟨p, 0, none⟩)] W fun e w' => e = .returned (.int .i64 P.left) ∧ W = w' := fun W hW => pleft_any (blk_below kp8 hW)
            have HLEFT := hide hleft
            clear hleft hway kq8 kp8 hu8 hv8
            go_region_held3 (fun w' => (∀ b o, b < w8.heap.size → w'.cell? ⟨b, o, none⟩ = w8.cell? ⟨b, o, none⟩) ∧ Below w8.heap.size w8 w')
              (first | exact BS.drew _ | assumption)
              ((go_at_call 14; refine (HLEFT.out _ (And.right (by assumption))).mono ?_; rintro e w' ⟨rfl, rfl⟩))
            obtain ⟨_, hB⟩ := ‹(∀ b o, b < w8.heap.size → _) ∧ Below w8.heap.size w8 _›
            have HPW9 := hide (HPW8.out.below hB)
            have HB9 := hide (HB8.out.trans (hB.mono HB8.out.size))
            have hz9 := hB.size
            clear hB ne
            go_wp2_with fail
            go_roundw
            case rel => exact ⟨k + 1, by go_num, by omega, HB9.out, HPW9.out, by omega⟩
            case measure => simp [intOf]; omega
    · go_wp2_with fail
      go_ret
      exact ⟨rfl, HBR.out⟩
end Go.Proofs.Ytdmohidkighajaa
