/- The reference's Put where the part fits and its version is not an old one. -/
import Derived.Test.YtdmohidkighajaaRq
namespace Go.Proofs.Ytdmohidkighajaa
open Go.RowKit
set_option linter.unusedVariables false
set_option linter.unusedSimpArgs false
attribute [local go_sem] ofL_toList

def joinL (c : List ByteArray) : List UInt8 := c.flatMap fun b => b.data.toList
def fullB (c : List ByteArray) : Bool := c.all fun b => !b.data.toList.isEmpty
theorem join_snoc {C : List ByteArray} {k : Nat} {s : ByteArray} (h : C[k]? = some s) : joinL (C.take (k + 1)) = joinL (C.take k) ++ s.data.toList := by
  rw [List.take_add_one, h]; simp [joinL]
theorem full_snoc {C : List ByteArray} {k : Nat} {s : ByteArray} (h : C[k]? = some s) : fullB (C.take (k + 1)) = (fullB (C.take k) && !s.data.toList.isEmpty) := by
  rw [List.take_add_one, h]; simp [fullB]
theorem full_not {C : List ByteArray} {k : Nat} {s : ByteArray} (h : C[k]? = some s) (he : s.data.toList = []) : fullB C = false := by
  unfold fullB
  rw [List.all_eq_false]
  exact ⟨s, List.mem_of_getElem? h, by rw [he]; decide⟩
theorem join_le {C : List ByteArray} {k : Nat} (h : ∀ s ∈ C, s.size ≤ 16) : (joinL (C.take k)).length ≤ 16 * k := by
  induction k with
  | zero => simp [joinL]
  | succ k ih =>
    cases hs : C[k]? with
    | none =>
      have : C.length ≤ k := List.getElem?_eq_none_iff.1 hs
      rw [List.take_of_length_le (by omega)]
      rw [List.take_of_length_le (by omega)] at ih
      omega
    | some s =>
      rw [join_snoc hs, List.length_append, size_data]
      have := h s (List.mem_of_getElem? hs)
      omega
theorem ofL_append (a b : List UInt8) : ofL (a ++ b) = ofL a ++ ofL b := by
  apply ByteArray.ext
  apply Array.ext'
  simp [ofL]
/-- What is done with a part where the version is begun. -/
def Rg.fin (R : Rg) (f : Fr) : ByteArray × Bool × Int × List ByteArray :=
  if (R.came.getD f.part.toNat ⟨#[]⟩).data.toList ≠ [] then (⟨#[]⟩, false, 14, R.came)
  else if fullB (R.came.set f.part.toNat f.bytes) = true then (ofL (joinL (R.came.set f.part.toNat f.bytes)), true, 0, R.came.set f.part.toNat f.bytes)
  else (⟨#[]⟩, false, 0, R.came.set f.part.toNat f.bytes)
/-- The glue behind Put. -/
def RPost (w w' : World) (r : Nat) (R R' : Rg) : Prop := ∃ b c, RAt w' r { R' with base := b, cap := c } ∧ Only r (R.hb r) w w' ∧ (b = R.base ∧ c = R.cap ∨ ∃ g, b = some ⟨g, 0, none⟩ ∧ w.heap.size ≤ g)
theorem Only.second {r h : Nat} {w w' : World} (o : Only r r w w') : Only r h w w' := ⟨o.os, o.tape, o.output, o.size, fun k hk h1 _ => o.block k hk h1 h1⟩
theorem RAt.came {w : World} {r h P : Nat} {R : Rg} (k : RAt w r R) (hb : R.base = some ⟨h, 0, none⟩) (hne : h ≠ r) (hP : P < R.came.length) (s : ByteArray) {W : World} (hW : W.heap = w.heap) :
    RAt (W.setCell ⟨h, P, none⟩ (.string s)) r { R with came := R.came.set P s } := by
  obtain ⟨h', cur, e, hn', hblk, ht⟩ := k.row (by intro e; rw [e] at hP; simp at hP)
  rw [hb] at e
  have e : h = h' := by simpa using e
  subst e
  have hblk' : W.heap[h]? = some (.cells cur 9 (0, 0)) := by rw [hW]; exact hblk
  refine ⟨?_, by simpa using k.cap, fun a h => by have := k.bl a h; simpa [World.setCell, hW] using this, fun _ => ⟨h, _, hb, hne, set_heap hblk' P (.string s), ?_⟩⟩
  · rw [set_other _ _ hne.symm, hW, k.blk]
    simp
  · rw [Array.toList_setIfInBounds, List.length_set, List.take_set, ht, List.map_set]

theorem start_world {w w5 : World} {r N : Nat} {R : Rg} {f : Fr} (K : RAt w5 r R) (hb : Below w.heap.size w w5) (hbx : w5.heap[w.heap.size]? = some (.cells (frV f) 36 (0, 0))) (hr : r < w.heap.size) (hx : w.heap.size < w5.heap.size) :
    ∃ b c, RAt (((((w5.setCell ⟨r, 1, none⟩ (.bool true)).setCell ⟨r, 2, none⟩ (.int .u16 f.vi)).setCell ⟨r, 3, none⟩ (.int .u32 f.vs)).setCell ⟨r, 4, none⟩ (.slice (some ⟨w5.heap.size, 0, none⟩) N N)).alloc (.cells (madeCells #[.string ⟨#[]⟩] N) 9)) r { R.start f N with base := b, cap := c } ∧
      (((((w5.setCell ⟨r, 1, none⟩ (.bool true)).setCell ⟨r, 2, none⟩ (.int .u16 f.vi)).setCell ⟨r, 3, none⟩ (.int .u32 f.vs)).setCell ⟨r, 4, none⟩ (.slice (some ⟨w5.heap.size, 0, none⟩) N N)).alloc (.cells (madeCells #[.string ⟨#[]⟩] N) 9)).heap[w.heap.size]? = some (.cells (frV f) 36 (0, 0)) ∧
      Only r r w (((((w5.setCell ⟨r, 1, none⟩ (.bool true)).setCell ⟨r, 2, none⟩ (.int .u16 f.vi)).setCell ⟨r, 3, none⟩ (.int .u32 f.vs)).setCell ⟨r, 4, none⟩ (.slice (some ⟨w5.heap.size, 0, none⟩) N N)).alloc (.cells (madeCells #[.string ⟨#[]⟩] N) 9)) ∧
      (b = R.base ∧ c = R.cap ∨ ∃ g, b = some ⟨g, 0, none⟩ ∧ w.heap.size ≤ g) := by
  have s1 := set_heap K.blk 1 (.bool true)
  have s2 := set_heap s1 2 (.int .u16 f.vi)
  have s3 := set_heap s2 3 (.int .u32 f.vs)
  have s4 := set_heap s3 4 (.slice (some ⟨w5.heap.size, 0, none⟩) N N)
  have hz : ((((w5.setCell ⟨r, 1, none⟩ (.bool true)).setCell ⟨r, 2, none⟩ (.int .u16 f.vi)).setCell ⟨r, 3, none⟩ (.int .u32 f.vs)).setCell ⟨r, 4, none⟩ (.slice (some ⟨w5.heap.size, 0, none⟩) N N)).heap.size = w5.heap.size := by simp [World.setCell]
  refine ⟨some ⟨w5.heap.size, 0, none⟩, N, ⟨?_, ?_, fun a h => by have h : some (⟨w5.heap.size, 0, none⟩ : Addr) = some a := h; have := Option.some.inj h; subst this; simp [World.setCell], fun _ => ⟨w5.heap.size, _, rfl, by omega, new_alloc _ trivial hz.symm, ?_⟩⟩, ?_, ?_, .inr ⟨_, rfl, by omega⟩⟩
  · have := old_alloc s4 (.cells (madeCells #[.string ⟨#[]⟩] N) 9)
    rw [this]
    simp [Rg.start]
  · simp [Rg.start]
  · simp only [Rg.start, List.length_replicate]
    exact madeStr_take N
  · refine old_alloc ?_ _
    rw [set_other _ _ (by omega), set_other _ _ (by omega), set_other _ _ (by omega), set_other _ _ (by omega)]
    exact hbx
  · have o : Only r r w w5 := ⟨hb.os, hb.tape, hb.output, hb.size, fun k hk _ _ => hb.block k hk⟩
    have o4 := ((((o.set r 1 (.bool true) (.inl rfl)).set r 2 (.int .u16 f.vi) (.inl rfl)).set r 3 (.int .u32 f.vs) (.inl rfl)).set r 4 (.slice (some ⟨w5.heap.size, 0, none⟩) N N) (.inl rfl))
    exact o4.trans ⟨rfl, rfl, rfl, by simp, fun k hk _ _ => Below.heap_alloc _ _ _ hk⟩

set_option maxHeartbeats 4000000 in
set_option maxRecDepth 20000 in
theorem rput_go {w : World} {r : Nat} {R : Rg} (k : RAt w r R) (h1 : 1 ≤ R.size) (h2 : R.size ≤ 64) (f : Fr) (ok : FrOk f) (hv : 0 ≤ f.vi ∧ f.vi ≤ 65535 ∧ 0 ≤ f.vs ∧ f.vs ≤ 4294967295) (hV : 0 ≤ R.vi ∧ R.vi ≤ 65535 ∧ 0 ≤ R.vs ∧ R.vs ≤ 4294967295)
    (hk : f.kind = 4) (hf : fitsP R.size f) (ho : ¬ (R.is = true ∧ num f.vi f.vs < num R.vi R.vs)) (hinv : R.is = true → R.came.length = (R.size + 15) / 16) (hsm : ∀ s ∈ R.came, s.size ≤ 16) :
    Calls Try.prog 32 #[.pointer (some ⟨r, 0, none⟩), .agg (frV f)] w fun e w' =>
      e = rR ((R.beg f ((R.size + 15) / 16)).fin f).1 ((R.beg f ((R.size + 15) / 16)).fin f).2.1 ((R.beg f ((R.size + 15) / 16)).fin f).2.2.1 ∧ RPost w w' r R { R.beg f ((R.size + 15) / 16) with came := ((R.beg f ((R.size + 15) / 16)).fin f).2.2.2 } := by
  have k0 := k.blk
  have HSM := hide hsm
  clear hsm
  obtain ⟨n, hn⟩ : ∃ n, R.size = n := ⟨_, rfl⟩
  rw [hn] at h1 h2 hf
  obtain ⟨N, hN⟩ : ∃ N, N = (n + 15) / 16 := ⟨_, rfl⟩
  have hfi := fits_iff h1 h2 ok hN
  have FB := fbox w f
  have c0 : (w.alloc (.cells (frV f) 36)).cell? ⟨w.heap.size, 0, none⟩ = some (.int .i64 f.kind) := FB.c 0
  have hk2 : (f.kind != 4) = false := by simpa using hk
  have kb := k.keep FB.bw
  have cs : (w.alloc (.cells (frV f) 36)).cell? ⟨r, 0, none⟩ = some (.int .i64 n) := by rw [← hn]; exact kb.c 0
  have hlen := lengths_any n (by omega) (w.alloc (.cells (frV f) 36))
  rw [← hN] at hlen
  have HLEN := hide hlen
  have FBH := hide FB
  have KB := hide kb
  obtain ⟨e1, e2, e3⟩ := hfi.1 hf
  have p0 := ok.part.1
  have p1 := ok.part.2
  have q0 := ok.parts.1
  have q1 := ok.parts.2
  have HN := hide hN
  have hN1 : 1 ≤ N := by omega
  have hN4 : N ≤ 4 := by omega
  have HO := hide ho
  have HI := hide hinv
  have HV := hide hv
  have HVV := hide hV
  clear hlen k kb FB hfi hf hk hN ho hinv hv hV
  obtain ⟨P, hP, hPN⟩ : ∃ P : Nat, f.part = P ∧ P < N := ⟨f.part.toNat, by omega, by omega⟩
  go_enter Try.func32, Try.ntmps32
  go_upto_region 4 with (go_at_call 44; refine HLEN.out.mono ?_; rintro e w2 ⟨x, rfl, hown, hb2⟩)
  obtain ⟨pl, cl, rfl, hpl⟩ := owns_shape hown
  obtain ⟨gl, rfl, hgl1, hgl2⟩ := hpl (by omega)
  have hbx : w2.heap[w.heap.size]? = some (.cells (frV f) 36 (0, 0)) := (hb2.block _ (by simp)).trans FBH.out.blk
  have d16 : w2.cell? ⟨w.heap.size, 16, none⟩ = some (.int .u8 P) := by rw [← hP]; exact blk_cell hbx 16
  have d17 : w2.cell? ⟨w.heap.size, 17, none⟩ = some (.int .u8 N) := by rw [← e1]; exact blk_cell hbx 17
  have d18 : w2.cell? ⟨w.heap.size, 18, none⟩ = some (.string f.bytes) := blk_cell hbx 18
  have cz : w2.cell? ⟨gl, P, none⟩ = some (.string (ofL (chunk (List.replicate n 0) P))) := owns_cell hown P _ (strCells_get _ _ _ hPN)
  have hfb : f.bytes.size ≤ 16 := by
    rw [hP] at e3
    have e4 : (f.bytes.size : Int) = ((min 16 (n - 16 * P) : Nat) : Int) := e3
    omega
  have HFB := hide hfb
  clear hfb
  have hbz : f.bytes.data.toList ≠ [] := by
    intro h
    have h' := congrArg List.length h
    rw [size_data, List.length_nil] at h'
    rw [h', hP] at e3
    have e4 : ((0 : Nat) : Int) = ((min 16 (n - 16 * P) : Nat) : Int) := by simpa using e3
    have := HN.out
    omega
  have HBZ := hide hbz
  clear hbz
  have hz : (ofL (chunk (List.replicate n 0) P)).size = min 16 (n - 16 * P) := by rw [ofL_size, chunk_len, List.length_replicate]
  obtain ⟨Z, hZ⟩ : ∃ Z, ofL (chunk (List.replicate n 0) P) = Z := ⟨_, rfl⟩
  rw [hZ] at cz hz
  have hee : f.bytes.size = Z.size := by rw [hz]; rw [hP] at e3; have e4 : (f.bytes.size : Int) = ((min 16 (n - 16 * P) : Nat) : Int) := e3; omega
  have HB2 := hide (box_below hb2)
  have HOWN := hide hown
  have HBX := hide hbx
  have K2 := hide (KB.out.keep hb2)
  clear hpl hown hb2 c0 cs hbx
  have g1 : decide (N ≤ P) = false := by simp; omega
  have g2 : (f.bytes.size != Z.size) = false := by simpa using hee
  have g2i : ((f.bytes.size : Int) != (Z.size : Int)) = false := by rw [hee]; simp
  have g3 : (0 : Int) ≤ P := by omega
  have g4 : (P : Int) < N := by omega
  have g5 : IntKind.i64.wrap (P : Int) = P := IntWalk.i64_in _ (by omega)
  have g6 : IntKind.i64.wrap (N : Int) = N := IntWalk.i64_in _ (by omega)
  clear hz hZ hee e3 e2
  go_quiet (fail)
  have hb2n := draws_below w2.heap.size w2 nq
  have K3 := hide (K2.out.keep hb2n)
  have hbx3 := (hb2n.block w.heap.size (Array.getElem?_eq_some_iff.1 HBX.out).1).trans HBX.out
  have HB3 := hide (HB2.out.trans (hb2n.mono (by have := HB2.out.size; omega)))
  generalize w2.drewN nq = w3 at K3 hbx3 HB3 ⊢
  clear hb2n d16 d17 d18 cz K2 HBX HB2
  have b14 : w3.cell? ⟨w.heap.size, 14, none⟩ = some (.int .u16 f.vi) := blk_cell hbx3 14
  have b15 : w3.cell? ⟨w.heap.size, 15, none⟩ = some (.int .u32 f.vs) := blk_cell hbx3 15
  have r1 : w3.cell? ⟨r, 1, none⟩ = some (.bool R.is) := K3.out.c 1
  have r2 : w3.cell? ⟨r, 2, none⟩ = some (.int .u16 R.vi) := K3.out.c 2
  have r3 : w3.cell? ⟨r, 3, none⟩ = some (.int .u32 R.vs) := K3.out.c 3
  have hr3 : r < w3.heap.size := (Array.getElem?_eq_some_iff.1 K3.out.blk).1
  have hx3 : w.heap.size < w3.heap.size := (Array.getElem?_eq_some_iff.1 hbx3).1
  have v1 : 0 ≤ f.vi ∧ f.vi ≤ 65535 := ⟨HV.out.1, HV.out.2.1⟩
  have v2 : 0 ≤ f.vs ∧ f.vs ≤ 4294967295 := HV.out.2.2
  have v3 : 0 ≤ R.vi ∧ R.vi ≤ 65535 := ⟨HVV.out.1, HVV.out.2.1⟩
  have v4 : 0 ≤ R.vs ∧ R.vs ≤ 4294967295 := HVV.out.2.2
  obtain ⟨B, hB⟩ : ∃ B, R.is = B := ⟨_, rfl⟩
  rw [hB] at r1
  have HBB := hide hB
  clear hB
  go_wp2_with fail
  go_cut [58] (fun x wc => x = .bool false ∧ Below w3.heap.size w3 wc)
  case first =>
    cases B
    · go_quiet (fail)
      go_wp2
      go_meet
      case rel => exact ⟨rfl, draws_below _ _ _⟩
    · have hlt : decide (num f.vi f.vs < num R.vi R.vs) = false := decide_eq_false fun h => HO.out ⟨HBB.out, h⟩
      go_region_held3 (fun w' => (∀ b o, b < w3.heap.size → w'.cell? ⟨b, o, none⟩ = w3.cell? ⟨b, o, none⟩) ∧ Below w3.heap.size w3 w')
        (first | exact BS.drew _ | exact BS.go (by assumption) (by assumption))
        ((go_at_call 23; (with_reducible refine (number_any _ _ (by assumption) (by assumption) _).mono ?_); rintro e w' ⟨rfl, hbw⟩))
      obtain ⟨_, hB⟩ := ‹(∀ b o, b < w3.heap.size → _) ∧ Below w3.heap.size w3 _›
      go_wp2_with fail
      go_meet
      case rel => exact ⟨rfl, hB⟩
  case rest =>
    obtain ⟨rfl, hB4⟩ := hcut
    have K4 := hide (K3.out.keep hB4)
    have hbx4 := (hB4.block _ hx3).trans hbx3
    have HB4 := hide (HB3.out.trans (hB4.mono (by have := HB3.out.size; omega)))
    have hsz4 := hB4.size
    have hr4 : r < wc.heap.size := by omega
    have hx4 : w.heap.size < wc.heap.size := by omega
    clear b14 b15 r1 r2 r3 K3 HB3 hbx3 hB4
    have b14 : wc.cell? ⟨w.heap.size, 14, none⟩ = some (.int .u16 f.vi) := blk_cell hbx4 14
    have b15 : wc.cell? ⟨w.heap.size, 15, none⟩ = some (.int .u32 f.vs) := blk_cell hbx4 15
    have r1 : wc.cell? ⟨r, 1, none⟩ = some (.bool B) := by rw [← HBB.out]; exact K4.out.c 1
    have r2 : wc.cell? ⟨r, 2, none⟩ = some (.int .u16 R.vi) := K4.out.c 2
    have r3 : wc.cell? ⟨r, 3, none⟩ = some (.int .u32 R.vs) := K4.out.c 3
    clear hr3 hx3 hsz4
    go_wp2_with fail
    have HBX4 := hide hbx4
    clear hbx4
    go_cut [74] (fun x wd => x = .bool (R.begins f) ∧ Below wc.heap.size wc wd)
    case first =>
      cases B
      · go_quiet (fail)
        go_wp2
        go_meet
        case rel => exact ⟨by unfold Rg.begins; rw [HBB.out]; rfl, draws_below _ _ _⟩
      · go_region_held3 (fun w' => (∀ b o, b < wc.heap.size → w'.cell? ⟨b, o, none⟩ = wc.cell? ⟨b, o, none⟩) ∧ Below wc.heap.size wc w')
          (first | exact BS.drew _ | exact BS.go (by assumption) (by assumption))
          ((go_at_call 23; (with_reducible refine (number_any _ _ (by assumption) (by assumption) _).mono ?_); rintro e w' ⟨rfl, hbw⟩))
        obtain ⟨_, hB⟩ := ‹(∀ b o, b < wc.heap.size → _) ∧ Below wc.heap.size wc _›
        go_wp2_with fail
        go_meet
        case rel => exact ⟨by unfold Rg.begins; rw [HBB.out]; rfl, hB⟩
    case rest =>
      obtain ⟨rfl, hB5⟩ := hcut
      have K5 := hide (K4.out.keep hB5)
      have hbx5 := (hB5.block _ hx4).trans HBX4.out
      have HB5 := hide (HB4.out.trans (hB5.mono (by have := HB4.out.size; omega)))
      obtain ⟨w5, rfl⟩ : ∃ w5 : World, w5 = wc := ⟨_, rfl⟩
      clear b14 b15 r1 r2 r3 K4 HB4 HBX4 hB5 hr4 hx4
      have b14 : w5.cell? ⟨w.heap.size, 14, none⟩ = some (.int .u16 f.vi) := blk_cell hbx5 14
      have b15 : w5.cell? ⟨w.heap.size, 15, none⟩ = some (.int .u32 f.vs) := blk_cell hbx5 15
      have r1 : w5.cell? ⟨r, 1, none⟩ = some (.bool B) := by rw [← HBB.out]; exact K5.out.c 1
      have r2 : w5.cell? ⟨r, 2, none⟩ = some (.int .u16 R.vi) := K5.out.c 2
      have r3 : w5.cell? ⟨r, 3, none⟩ = some (.int .u32 R.vs) := K5.out.c 3
      have r4 : w5.cell? ⟨r, 4, none⟩ = some (.slice R.base R.came.length R.cap) := K5.out.c 4
      have f1 := blk_frozen K5.out.blk 1
      have f2 := blk_frozen K5.out.blk 2
      have f3 := blk_frozen K5.out.blk 3
      have f4 := blk_frozen K5.out.blk 4
      have hr5 : r < w5.heap.size := (Array.getElem?_eq_some_iff.1 K5.out.blk).1
      have hx5 : w.heap.size < w5.heap.size := (Array.getElem?_eq_some_iff.1 hbx5).1
      have hrne : r ≠ w.heap.size := by have := (Array.getElem?_eq_some_iff.1 k0).1; omega
      have HBX5 := hide hbx5
      clear hbx5
      go_upto_if 74 with fail
      go_cut [] (fun wc => ∃ b c, RAt wc r { R.beg f N with base := b, cap := c } ∧ wc.heap[w.heap.size]? = some (.cells (frV f) 36 (0, 0)) ∧ Only r r w wc ∧ (b = R.base ∧ c = R.cap ∨ ∃ g, b = some ⟨g, 0, none⟩ ∧ w.heap.size ≤ g))
      case first =>
        cases hbg : R.begins f
        · go_wp2_with fail
          go_meet
          case rel =>
            have e : R.beg f N = R := by unfold Rg.beg; rw [hbg]; rfl
            rw [e]
            exact ⟨R.base, R.cap, K5.out, HBX5.out, ⟨HB5.out.os, HB5.out.tape, HB5.out.output, HB5.out.size, fun k hk _ _ => HB5.out.block k hk⟩, .inl ⟨rfl, rfl⟩⟩
        · have hmk := make_str 22 9 Try.underlying22 infoStr N (by omega)
          go_wp2_with fail
          go_meet
          case rel =>
            have e : R.beg f N = R.start f N := by unfold Rg.beg; rw [hbg]; rfl
            rw [e]
            exact start_world K5.out HB5.out HBX5.out (Array.getElem?_eq_some_iff.1 k0).1 hx5
      case rest =>
        obtain ⟨b, c, k6, hbx6, ho6, hbase⟩ := hcut
        obtain ⟨w6, rfl⟩ : ∃ w6 : World, w6 = wc := ⟨_, rfl⟩
        clear b14 b15 r1 r2 r3 r4 f1 f2 f3 f4 HBX5 HB5 K5 hr5 hx5
        have hlen : (R.beg f N).came.length = N := by
          have hN' := HN.out
          unfold Rg.beg
          cases hbg : R.begins f
          · have hi : R.is = true := by
              unfold Rg.begins at hbg
              cases hh : R.is
              · rw [hh] at hbg; simp at hbg
              · rfl
            rw [if_neg (by decide), HI.out hi, hn, hN']
          · rw [if_pos rfl]; simp [Rg.start]
        obtain ⟨R1, hR1⟩ : ∃ R1, ({ R.beg f N with base := b, cap := c } : Rg) = R1 := ⟨_, rfl⟩
        have hR1c : R1.came = (R.beg f N).came := by rw [← hR1]
        rw [hR1] at k6
        rw [← hR1c] at hlen
        obtain ⟨s, hs⟩ : ∃ s, R1.came[P]? = some s := ⟨_, List.getElem?_eq_getElem (by omega)⟩
        obtain ⟨h, hb, hne, hhl, hc, hfz⟩ := k6.cell P s hs
        have b16 : w6.cell? ⟨w.heap.size, 16, none⟩ = some (.int .u8 P) := by rw [← hP]; exact blk_cell hbx6 16
        have b18 : w6.cell? ⟨w.heap.size, 18, none⟩ = some (.string f.bytes) := blk_cell hbx6 18
        have r4 : w6.cell? ⟨r, 4, none⟩ = some (.slice (some ⟨h, 0, none⟩) N R1.cap) := by rw [← hb, ← hlen]; exact k6.c 4
        have HR1 := hide hR1; have HR1C := hide hR1c; have HS := hide hs; have K6 := hide k6; have HB := hide hb; have HBX6 := hide hbx6; have HO6 := hide ho6; have HBASE := hide hbase; have HLEN6 := hide hlen
        clear hR1 hR1c hs k6 hb hbx6 ho6 hbase hlen
        obtain ⟨l, rfl⟩ : ∃ l, s = ofL l := ⟨s.data.toList, (ofL_of s).symm⟩
        go_wp2_with fail
        cases hx : l.isEmpty
        · go_quiet (fail)
          go_wp2_with fail
          go_ret3
          have hne : (R1.came.getD f.part.toNat ⟨#[]⟩).data.toList ≠ [] := by
            rw [hP, Int.toNat_natCast, List.getD_eq_getElem?_getD, HS.out, Option.getD_some, ofL_data]
            intro e
            rw [e] at hx
            simp at hx
          have hfin : (R.beg f N).fin f = (⟨#[]⟩, false, 14, (R.beg f N).came) := by
            unfold Rg.fin
            rw [← HR1C.out, if_pos hne]
          rw [hn, ← HN.out, hfin]
          refine ⟨rfl, b, c, ?_, ?_, HBASE.out⟩
          · have := K6.out.keep (draws_below w6.heap.size w6 nq)
            rw [← HR1.out] at this
            exact this
          · exact HO6.out.second.drewN nq
        · go_quiet (fail)
          have e7 : (w6.drewN nq).heap = w6.heap := rfl
          have c7 : (w6.drewN nq).cell? ⟨h, P, none⟩ = some (.string (ofL l)) := hc
          have r47 : (w6.drewN nq).cell? ⟨r, 4, none⟩ = some (.slice (some ⟨h, 0, none⟩) N R1.cap) := r4
          have b167 : (w6.drewN nq).cell? ⟨w.heap.size, 16, none⟩ = some (.int .u8 P) := b16
          have b187 : (w6.drewN nq).cell? ⟨w.heap.size, 18, none⟩ = some (.string f.bytes) := b18
          have f7 : (w6.drewN nq).frozen? ⟨h, P, none⟩ = false := hfz
          have O7 := hide (HO6.out.drewN nq)
          have E7 := hide e7
          generalize w6.drewN nq = w7 at c7 r47 b167 b187 f7 O7 E7 ⊢
          clear e7 hc r4 b16 b18 hfz
          go_wp2_with fail
          go_region
          have hPl : P < R1.came.length := by rw [HLEN6.out]; exact hPN
          have k8 : RAt (w7.setCell ⟨h, P, none⟩ (.string f.bytes)).drew r { R1 with came := R1.came.set P f.bytes } := (K6.out.came HB.out hne hPl f.bytes E7.out).keep (draws_below _ _ 1)
          have o8 : Only r (R.hb r) w (w7.setCell ⟨h, P, none⟩ (.string f.bytes)).drew := by
            refine Only.trans ?_ (Only.drewN (Only.refl r (R.hb r) _) 1)
            have o7 := O7.out
            rcases HBASE.out with ⟨e1, -⟩ | ⟨g, e1, e2⟩
            · have hh : R.hb r = h := by
                have hb := HB.out
                rw [← HR1.out] at hb
                have hb : b = some ⟨h, 0, none⟩ := hb
                unfold Rg.hb
                rw [← e1, hb]
              rw [hh]
              exact o7.second.set h P _ (.inr rfl)
            · have hb := HB.out
              rw [← HR1.out] at hb
              have hb : b = some ⟨h, 0, none⟩ := hb
              rw [e1] at hb
              have hgh : g = h := by simpa using hb
              exact ⟨o7.os, o7.tape, o7.output, by have := o7.size; simpa [World.setCell] using this, fun k hk h1 _ => (Below.heap_setCell _ _ _ _ (by show k ≠ h; omega)).trans (o7.block k hk h1 h1)⟩
          have O8 := hide o8
          have K8 := hide k8
          clear o8 k8 c7 r47 b167 b187 f7 O7 E7
          generalize (w7.setCell ⟨h, P, none⟩ (.string f.bytes)).drew = w8 at K8 O8 ⊢
          obtain ⟨C, hC⟩ : ∃ C, R1.came.set P f.bytes = C := ⟨_, rfl⟩
          have hCl : C.length = N := by rw [← hC, List.length_set, HLEN6.out]
          have hC2 : (R.beg f N).came.set f.part.toNat f.bytes = C := by rw [hP, Int.toNat_natCast, ← HR1C.out, hC]
          rw [hC] at K8
          have r8 : w8.cell? ⟨r, 4, none⟩ = some (.slice R1.base C.length R1.cap) := K8.out.c 4
          rw [HB.out, hCl] at r8
          have hfin : (R.beg f N).fin f = if fullB C = true then (ofL (joinL C), true, 0, C) else (⟨#[]⟩, false, 0, C) := by
            unfold Rg.fin
            rw [hC2, if_neg]
            intro hh
            rw [← HR1C.out, hP, Int.toNat_natCast, List.getD_eq_getElem?_getD, HS.out, Option.getD_some, ofL_data] at hh
            exact hh (List.isEmpty_iff.1 hx)
          have hR1b : ∀ l, ({ size := (R.beg f N).size, is := (R.beg f N).is, vi := (R.beg f N).vi, vs := (R.beg f N).vs, base := b, cap := c, came := l, ty := (R.beg f N).ty, tl := (R.beg f N).tl } : Rg) = { R1 with came := l } := fun l => by rw [← HR1.out]
          have HR1B := hide hR1b
          clear hR1b
          have hCs : ∀ s ∈ C, s.size ≤ 16 := by
            rw [← hC, HR1C.out]
            intro s hs
            rcases List.mem_or_eq_of_mem_set hs with hs | rfl
            · unfold Rg.beg at hs
              split at hs
              · simp [Rg.start] at hs
                rw [hs.2]; decide
              · exact HSM.out s hs
            · exact HFB.out
          have HCS := hide hCs
          clear hCs
          have HC := hide hC; have HCL := hide hCl; have HFIN := hide hfin; have HNN := hide hn
          clear hC hCl hC2 hfin hn
          go_wp2_with fail
          go_loop [8, 9] (fun x i => ∃ k : Nat, i = .int .i64 k ∧ k ≤ N ∧ x = .string (ofL (joinL (C.take k))) ∧ fullB (C.take k) = true) (fun _ i => N - (intOf i).toNat)
          case atStart => exact ⟨0, rfl, Nat.zero_le _, rfl, rfl⟩
          case round =>
            obtain ⟨k, rfl, hk, rfl, hfull⟩ := hrel
            have HFULL := hide hfull
            clear hfull
            by_cases hlt : k < N
            · obtain ⟨s, hs⟩ : ∃ s, C[k]? = some s := ⟨_, List.getElem?_eq_getElem (by rw [HCL.out]; exact hlt)⟩
              obtain ⟨h', hb', hne', -, hc, -⟩ := K8.out.cell k s hs
              have hhh : h = h' := by
                have := HB.out
                have hb'' : R1.base = some ⟨h', 0, none⟩ := hb'
                rw [this] at hb''
                simpa using hb''
              subst hhh
              have hs16 := HCS.out s (List.mem_of_getElem? hs)
              have HS2 := hide hs
              clear hs hb'
              obtain ⟨l, rfl⟩ : ∃ l, s = ofL l := ⟨s.data.toList, (ofL_of s).symm⟩
              have hcat : (ofL (joinL (C.take k))).size + (ofL l).size ≤ 9223372036854775807 := by
                have := join_le (C := C) (k := k) HCS.out
                rw [ofL_size]
                omega
              cases hx2 : l.isEmpty
              · go_wp2_with fail
                go_round
                case rel => exact ⟨k + 1, by go_num, by omega, by rw [join_snoc HS2.out, ofL_data, ofL_append], by rw [full_snoc HS2.out, HFULL.out, ofL_data, hx2]; rfl⟩
                case measure => simp [intOf]; omega
              · go_wp2_with fail
                go_ret3
                rw [HNN.out, ← HN.out, HFIN.out, if_neg (by rw [full_not HS2.out (by rw [ofL_data]; exact List.isEmpty_iff.1 hx2)]; decide)]
                exact ⟨rfl, b, c, by rw [HR1B.out C]; exact K8.out, O8.out, HBASE.out⟩
            · have hf : fullB C = true := by
                have := HFULL.out
                rwa [List.take_of_length_le (by rw [HCL.out]; omega)] at this
              have ej : joinL (C.take k) = joinL C := by rw [List.take_of_length_le (by rw [HCL.out]; omega)]
              have HF := hide hf; have HEJ := hide ej
              clear hf ej
              go_wp2_with fail
              go_ret3
              rw [HNN.out, ← HN.out, HFIN.out, if_pos HF.out, ← HEJ.out]
              exact ⟨rfl, b, c, by rw [HR1B.out C]; exact K8.out, O8.out, HBASE.out⟩
theorem RAt.lt {w : World} {r : Nat} {R : Rg} (k : RAt w r R) : r < w.heap.size := (Array.getElem?_eq_some_iff.1 k.blk).1
theorem RAt.hbl {w : World} {r : Nat} {R : Rg} (k : RAt w r R) : R.hb r < w.heap.size := by
  unfold Rg.hb
  split
  · exact k.bl _ (by assumption)
  · exact k.lt

end Go.Proofs.Ytdmohidkighajaa
