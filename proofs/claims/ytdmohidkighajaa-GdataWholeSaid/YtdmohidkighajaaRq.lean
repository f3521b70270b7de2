/- The reference's Put where the part fits: an old version. -/
import Derived.Test.YtdmohidkighajaaRp
namespace Go.Proofs.Ytdmohidkighajaa
open Go.RowKit
set_option linter.unusedVariables false
set_option linter.unusedSimpArgs false


/-- As 'Below w', what was there reads as before: the one condition of every region that only reads old cells and calls what makes memory. -/
abbrev BS (w w' : World) : Prop := (∀ b o, b < w.heap.size → w'.cell? ⟨b, o, none⟩ = w.cell? ⟨b, o, none⟩) ∧ Below w.heap.size w w'
theorem BS.of {w w' : World} (h : Below w.heap.size w w') : BS w w' := ⟨fun b o hb => h.cell (p := ⟨b, o, none⟩) hb, h⟩
theorem BS.go {w W W' : World} (h : BS w W) (b : Below W.heap.size W W') : BS w W' := BS.of (h.2.trans (b.mono h.2.size))
theorem BS.drew (w : World) : BS w w.drew := BS.of (draws_below _ w 1)

set_option maxHeartbeats 4000000 in
set_option maxRecDepth 20000 in
theorem rput_old {w : World} {r : Nat} {R : Rg} (k : RAt w r R) (h1 : 1 ≤ R.size) (h2 : R.size ≤ 64) (f : Fr) (ok : FrOk f) (hv : 0 ≤ f.vi ∧ f.vi ≤ 65535 ∧ 0 ≤ f.vs ∧ f.vs ≤ 4294967295) (hV : 0 ≤ R.vi ∧ R.vi ≤ 65535 ∧ 0 ≤ R.vs ∧ R.vs ≤ 4294967295)
    (hk : f.kind = 4) (hf : fitsP R.size f) (hi : R.is = true) (ho : num f.vi f.vs < num R.vi R.vs) :
    Calls Try.prog 32 #[.pointer (some ⟨r, 0, none⟩), .agg (frV f)] w fun e w' => e = rR ⟨#[]⟩ false 1 ∧ Below w.heap.size w w' := by
  obtain ⟨n, hn⟩ : ∃ n, R.size = n := ⟨_, rfl⟩
  rw [hn] at h1 h2 hf
  obtain ⟨N, hN⟩ : ∃ N, N = (n + 15) / 16 := ⟨_, rfl⟩
  have hfi := fits_iff h1 h2 ok hN
  have FB := fbox w f
  have c0 : (w.alloc (.cells (frV f) 36)).cell? ⟨w.heap.size, 0, none⟩ = some (.int .i64 f.kind) := FB.c 0
  have hk2 : (f.kind != 4) = false := by simpa using hk
  have kb := k.keep FB.bw
  have cs : (w.alloc (.cells (frV f) 36)).cell? ⟨r, 0, none⟩ = some (.int .i64 n) := by rw [← hn]; exact kb.c 0
  have hlen := lengths_any n (by omega) (w.alloc (.cells (frV f) 36))
  rw [← hN] at hlen
  have HLEN := hide hlen
  have FBH := hide FB
  have KB := hide kb
  obtain ⟨e1, e2, e3⟩ := hfi.1 hf
  have p0 := ok.part.1
  have p1 := ok.part.2
  have q0 := ok.parts.1
  have q1 := ok.parts.2
  have HN := hide hN
  have hN1 : 1 ≤ N := by omega
  have hN4 : N ≤ 4 := by omega
  have HO := hide ho
  have HI := hide hi
  have HV := hide hv
  have HVV := hide hV
  clear hlen k kb FB hfi hf hk hN ho hi hv hV
  obtain ⟨P, hP, hPN⟩ : ∃ P : Nat, f.part = P ∧ P < N := ⟨f.part.toNat, by omega, by omega⟩
  go_enter Try.func32, Try.ntmps32
  go_upto_region 4 with (go_at_call 44; refine HLEN.out.mono ?_; rintro e w2 ⟨x, rfl, hown, hb2⟩)
  obtain ⟨pl, cl, rfl, hpl⟩ := owns_shape hown
  obtain ⟨gl, rfl, hgl1, hgl2⟩ := hpl (by omega)
  have hbx : w2.heap[w.heap.size]? = some (.cells (frV f) 36 (0, 0)) := (hb2.block _ (by simp)).trans FBH.out.blk
  have d16 : w2.cell? ⟨w.heap.size, 16, none⟩ = some (.int .u8 P) := by rw [← hP]; exact blk_cell hbx 16
  have d17 : w2.cell? ⟨w.heap.size, 17, none⟩ = some (.int .u8 N) := by rw [← e1]; exact blk_cell hbx 17
  have d18 : w2.cell? ⟨w.heap.size, 18, none⟩ = some (.string f.bytes) := blk_cell hbx 18
  have cz : w2.cell? ⟨gl, P, none⟩ = some (.string (ofL (chunk (List.replicate n 0) P))) := owns_cell hown P _ (strCells_get _ _ _ hPN)
  have hz : (ofL (chunk (List.replicate n 0) P)).size = min 16 (n - 16 * P) := by rw [ofL_size, chunk_len, List.length_replicate]
  obtain ⟨Z, hZ⟩ : ∃ Z, ofL (chunk (List.replicate n 0) P) = Z := ⟨_, rfl⟩
  rw [hZ] at cz hz
  have hee : f.bytes.size = Z.size := by rw [hz]; rw [hP] at e3; have e4 : (f.bytes.size : Int) = ((min 16 (n - 16 * P) : Nat) : Int) := e3; omega
  have HB2 := hide (box_below hb2)
  have HOWN := hide hown
  have HBX := hide hbx
  have K2 := hide (KB.out.keep hb2)
  clear hpl hown hb2 c0 cs hbx
  have g1 : decide (N ≤ P) = false := by simp; omega
  have g2 : (f.bytes.size != Z.size) = false := by simpa using hee
  have g2i : ((f.bytes.size : Int) != (Z.size : Int)) = false := by rw [hee]; simp
  have g3 : (0 : Int) ≤ P := by omega
  have g4 : (P : Int) < N := by omega
  have g5 : IntKind.i64.wrap (P : Int) = P := IntWalk.i64_in _ (by omega)
  have g6 : IntKind.i64.wrap (N : Int) = N := IntWalk.i64_in _ (by omega)
  clear hz hZ hee e3 e2
  go_quiet (fail)
  have hb2n := draws_below w2.heap.size w2 nq
  have K3 := hide (K2.out.keep hb2n)
  have hbx3 := (hb2n.block w.heap.size (Array.getElem?_eq_some_iff.1 HBX.out).1).trans HBX.out
  have HB3 := hide (HB2.out.trans (hb2n.mono (by have := HB2.out.size; omega)))
  generalize w2.drewN nq = w3 at K3 hbx3 HB3 ⊢
  clear hb2n d16 d17 d18 cz K2 HBX HB2
  have b14 : w3.cell? ⟨w.heap.size, 14, none⟩ = some (.int .u16 f.vi) := blk_cell hbx3 14
  have b15 : w3.cell? ⟨w.heap.size, 15, none⟩ = some (.int .u32 f.vs) := blk_cell hbx3 15
  have r1 : w3.cell? ⟨r, 1, none⟩ = some (.bool true) := by rw [← HI.out]; exact K3.out.c 1
  have r2 : w3.cell? ⟨r, 2, none⟩ = some (.int .u16 R.vi) := K3.out.c 2
  have r3 : w3.cell? ⟨r, 3, none⟩ = some (.int .u32 R.vs) := K3.out.c 3
  have hlt : num f.vi f.vs < num R.vi R.vs := HO.out
  go_wp2_with fail
  have hr3 : r < w3.heap.size := (Array.getElem?_eq_some_iff.1 K3.out.blk).1
  have hx3 : w.heap.size < w3.heap.size := (Array.getElem?_eq_some_iff.1 hbx3).1
  have v1 : 0 ≤ f.vi ∧ f.vi ≤ 65535 := ⟨HV.out.1, HV.out.2.1⟩
  have v2 : 0 ≤ f.vs ∧ f.vs ≤ 4294967295 := HV.out.2.2
  have v3 : 0 ≤ R.vi ∧ R.vi ≤ 65535 := ⟨HVV.out.1, HVV.out.2.1⟩
  have v4 : 0 ≤ R.vs ∧ R.vs ≤ 4294967295 := HVV.out.2.2
  go_region_held3 (fun w' => (∀ b o, b < w3.heap.size → w'.cell? ⟨b, o, none⟩ = w3.cell? ⟨b, o, none⟩) ∧ Below w3.heap.size w3 w')
    (first | exact BS.drew _ | exact BS.go (by assumption) (by assumption))
    ((go_at_call 23; (with_reducible refine (number_any _ _ (by assumption) (by assumption) _).mono ?_); rintro e w' ⟨rfl, hbw⟩))
  obtain ⟨_, hB⟩ := ‹(∀ b o, b < w3.heap.size → _) ∧ Below w3.heap.size w3 _›
  go_wp2_with fail
  go_ret3
  exact ⟨rfl, HB3.out.trans (hB.mono (by have := HB3.out.size; omega))⟩

theorem make_str (t e : TypeId) (ht : Try.prog.underlying t = some (.slice e)) (hinfo : (Try.prog.info? e).map (fun i => (i.zero, i.size, i.bytes)) = some (some (.string ⟨#[]⟩), 1, 16)) (n : Nat) (hn : n ≤ 1000) :
    ∀ w : World, (Instr.makeSlice t (.int .i64 (n : Int)) (.int .i64 (n : Int))).run Try.prog w = .ok (.slice (some ⟨w.heap.size, 0, none⟩) n n) (w.alloc (.cells (madeCells #[.string ⟨#[]⟩] n) e)) := by
  intro w
  obtain ⟨i, hi, hz, hs, hb⟩ := info_parts hinfo
  have hr := run_make (P := Try.prog) w t e i _ ht hi hz .i64 .i64 n n (by omega) (by omega) (by rw [hb]; omega) (by omega)
  rw [hs] at hr
  have hz : (Value.string ⟨#[]⟩).cells = #[.string ⟨#[]⟩] := rfl
  simpa [hz] using hr

/-- The reference's glue that begins a frame's version. -/
def Rg.start (R : Rg) (f : Fr) (N : Nat) : Rg := { R with is := true, vi := f.vi, vs := f.vs, came := List.replicate N ⟨#[]⟩ }
def Rg.begins (R : Rg) (f : Fr) : Bool := !R.is || decide (num R.vi R.vs < num f.vi f.vs)
def Rg.beg (R : Rg) (f : Fr) (N : Nat) : Rg := if R.begins f = true then R.start f N else R
/-- What else may turn: the row of what came. -/
def Rg.hb (R : Rg) (r : Nat) : Nat := match R.base with
  | some a => a.block
  | none => r

theorem madeStr_take (n : Nat) : (madeCells #[Value.string ⟨#[]⟩] n).toList.take n = (List.replicate n (⟨#[]⟩ : ByteArray)).map Value.string := by
  apply List.ext_getElem?
  intro i
  rw [List.getElem?_take, List.getElem?_map, List.getElem?_replicate]
  by_cases h : i < n
  · rw [if_pos h, if_pos h, Array.getElem?_toList, madeCells_get _ _ _ h]
    rfl
  · rw [if_neg h, if_neg h]
    rfl

end Go.Proofs.Ytdmohidkighajaa
