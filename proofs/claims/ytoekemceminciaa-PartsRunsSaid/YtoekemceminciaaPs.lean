/- The walk of PartsSplits. -/
import Derived.Test.YtoekemceminciaaQk
namespace Go.Proofs.Ytoekemceminciaa
open Go.RowKit
set_option linter.unusedVariables false
set_option linter.unusedSimpArgs false

/-- A slice of bytes that came in. -/
def Turns (W : World) (A : Option Addr) (n : Nat) : Prop := ∀ i, i < n → ∃ (a : Addr) (x : Int), A = some a ∧ a.block < W.heap.size ∧ 0 ≤ x ∧ x ≤ 255 ∧ W.cell? (a.add i) = some (.int .u8 x)
theorem Turns.below {W w : World} {A : Option Addr} {n : Nat} (h : Turns W A n) (b : Below W.heap.size W w) : Turns w A n := by
  intro i hi
  obtain ⟨a, x, e, hb, h0, h1, hc⟩ := h i hi
  refine ⟨a, x, e, Nat.lt_of_lt_of_le hb b.size, h0, h1, ?_⟩
  rw [World.cell?_of_block (w := W) (b.block _ (by rw [block_add]; exact hb)), hc]

theorem FS.copy {w : World} {B g cap : Nat} {l : List Fr} (s : FS w B g cap l) (h0 : 0 < l.length) (hl : l.length ≤ 1000) (b : Nat) (W : World) (ty : TypeId) (hb : Below w.heap.size w W) :
    ∃ v' W', (Builtin.append_ #[53, 53] ty #[.slice (some ⟨b, 0, none⟩) 0 0, .slice (some ⟨g, 0, none⟩) l.length cap]).run Try.prog W = .ok v' W' ∧
      (∃ g' cap', v' = .slice (some ⟨g', 0, none⟩) l.length cap' ∧ FS W' W.heap.size g' cap' l ∧ Below W.heap.size W W') := by
  have sb := s.below hb
  obtain ⟨i0, hi, hz0, hz1, hz2⟩ := info_parts infoFr
  have hr := run_append_grow (P := Try.prog) W 53 ty 52 i0 _ Try.underlying53 hi hz0 ⟨b, 0, none⟩ 0 0 [] (by simp)
    (fun j u hj => by simp at hj) ⟨g, 0, none⟩ l.length cap (frCells l) (by rw [frCells_len, hz1])
    (fun j u hj => by
      rw [Addr.add_mid, Nat.zero_add]
      exact sb.cells j u hj)
    (by omega) (by omega) (growslice_fits (by omega) (by rw [hz2]; omega))
  rw [Nat.zero_add] at hr
  refine ⟨_, _, hr, W.heap.size, _, rfl, ⟨fun j u hj => ?_, Nat.le_refl _, by simp, ?_⟩, ?_⟩
  · rw [show W.heap.size = W.drew.heap.size from rfl, blk_cell (heap_alloc_new W.drew _) j]
    rw [← Array.getElem?_toList, Array.toList_append, List.getElem?_append_left (by simpa using (List.getElem?_eq_some_iff.1 hj).1)]
    simpa using hj
  · exact grownCap_ge W l.length 0 52
  · exact ((Below.refl _ _).drew).alloc (Nat.le_refl _) _

set_option maxHeartbeats 1000000 in
set_option maxRecDepth 20000 in
theorem psplits_long (f : Fr) (v : ByteArray) (A : Option Addr) (m c : Nat) (w : World) (hbig : 80 < v.size ∨ 40 < f.bytes.size) :
    Calls Try.prog 6 #[.agg (frV f), .string v, .slice A m c] w fun e w' => e = .returned (.bool true) ∧ Below w.heap.size w w' := by
  have HAW := hide (awake_any (w.alloc (.cells (frV f) 52)))
  have B0 := hide (fbox w f)
  go_enter Try.func6, Try.ntmps6
  go_upto_region 3 with (go_at_call 23; refine HAW.out.mono ?_; rintro e w1 ⟨rfl, hb1⟩)
  have c18 : w1.cell? ⟨w.heap.size, 18, none⟩ = some (.string f.bytes) := box_cell hb1 18
  have HB1 := hide hb1
  clear hb1
  by_cases h1 : 80 < v.size
  · go_wp2_with fail
    go_ret
    exact ⟨rfl, box_below HB1.out⟩
  · have h2 : 40 < f.bytes.size := by omega
    go_wp2_with fail
    go_ret
    exact ⟨rfl, box_below HB1.out⟩

def lenS : Value → Nat
  | .slice _ n _ => n
  | _ => 0
theorem map_eraseIdx {α β : Type} (g : α → β) : ∀ (l : List α) (k : Nat), (l.map g).eraseIdx k = (l.eraseIdx k).map g
  | [], k => rfl
  | a :: l, 0 => rfl
  | a :: l, k + 1 => by simp [map_eraseIdx g l k]
theorem frame_neq (f : Fr) (w : World) : (binOp .neq 52 (.agg (frV f)) (.agg (frV f))).run Try.prog w = .ok (.bool false) w := by
  rw [run_neq_struct, frame_same]
  rfl
theorem list_take_one {l : List Value} {i : Nat} {v : Value} (h : l[i]? = some v) : l[i]? = some v := h
theorem FS.loadn {w : World} {B g cap : Nat} {l : List Fr} (k : FS w B g cap l) (i : Nat) (f : Fr) (hi : l[i]? = some f) : w.rangeAt g (i * 19) (frV f).toList := by
  rw [Nat.mul_comm]
  exact k.load i f hi

set_option maxHeartbeats 1000000 in
set_option maxRecDepth 20000 in
theorem psplits_short (f : Fr) (v : ByteArray) (A : Option Addr) (m c : Nat) (w : World) (h1 : v.size ≤ 80) (h2 : f.bytes.size ≤ 40) (ht : Turns w A m) :
    Calls Try.prog 6 #[.agg (frV f), .string v, .slice A m c] w fun e w' => e = .returned (.bool true) ∧ Below w.heap.size w w' := by
  have HAW := hide (awake_any (w.alloc (.cells (frV f) 52)))
  have B0 := hide (fbox w f)
  have HT := hide ht
  obtain ⟨L, hL⟩ : ∃ L, splitL f v.data.toList = L := ⟨_, rfl⟩
  obtain ⟨n, hn, hn4⟩ : ∃ n, (nParts v.size).toNat = n ∧ n ≤ 4 := ⟨_, rfl, by have := nParts_le v.size; omega⟩
  have hLn : L.length = n := by rw [← hL, splitL_len, size_data, hn]
  have hLg : ∀ i, i < n → L[i]? = some (f.of v.data.toList (nParts v.size) i) := fun i hi => by
    have := splitL_get f v.data.toList i (by rw [size_data, hn]; exact hi)
    rw [size_data, hL] at this
    exact this
  have HL := hide hL
  have HN := hide hn
  have HLG := hide hLg
  have HLN := hide hLn
  clear hL hn hLg hLn ht
  go_enter Try.func6, Try.ntmps6
  go_upto_region 3 with (go_at_call 23; refine HAW.out.mono ?_; rintro e w1 ⟨rfl, hb1⟩)
  have hbx : w1.heap[w.heap.size]? = some (.cells (frV f) 52 (0, 0)) := (hb1.block _ (by simp)).trans B0.out.blk
  have c18 : w1.cell? ⟨w.heap.size, 18, none⟩ = some (.string f.bytes) := blk_cell hbx 18
  have HB1 := hide (box_below hb1)
  have hlt1 : w.heap.size < w1.heap.size := (Array.getElem?_eq_some_iff.1 hbx).1
  have hs1 := split_any f v w1
  rw [HL.out, HLN.out] at hs1
  have HS1 := hide hs1
  clear hb1 hs1
  go_upto_region 6 with (first
    | (refine wpList_load_row rfl 52 _ rfl _ rfl 52 _ (0, 0) _ hbx Try.underlying52 rfl (by kernel_rfl) ?_)
    | (go_at_call 24; refine HS1.out.mono ?_; rintro e w2 ⟨x, rfl, hown, hb2⟩))
  obtain ⟨p, cap, rfl, hp⟩ := owns_shape hown
  have hbx2 := (hb2.block _ hlt1).trans hbx
  have hs2 := rsplit_any f v w2
  rw [HL.out, HLN.out] at hs2
  have HS2 := hide hs2
  have HB2 := hide (HB1.out.trans (hb2.mono (by omega)))
  have HOWN := hide hown
  have hp : 0 < n → ∃ g, p = some ⟨g, 0, none⟩ ∧ w.heap.size ≤ g ∧ g < w2.heap.size := fun h => by
    obtain ⟨g, h1, h2, h3⟩ := hp h
    exact ⟨g, h1, by omega, h3⟩
  have HP := hide hp
  have hlt2 := hb2.size
  clear hs2 hb2 hown c18 hbx hp
  go_upto_region 7 with (first
    | (refine wpList_load_row rfl 52 _ rfl _ rfl 52 _ (0, 0) _ hbx2 Try.underlying52 rfl (by kernel_rfl) ?_)
    | (go_at_call 25; refine HS2.out.mono ?_; rintro e w3 ⟨x, rfl, hown2, hb3⟩))
  obtain ⟨q, cap', rfl, hq⟩ := owns_shape hown2
  have HB3 := hide (HB2.out.trans (hb3.mono (by omega)))
  have HOWN1 := hide (below_own HOWN.out hb3)
  have HOWN2 := hide hown2
  have HQ := hide hq
  have hlt3 := hb3.size
  clear hown2 hb3 hbx2 hq HOWN
  go_wp2_with fail
  go_loopw [41] (fun i wr => ∃ k : Nat, i = .int .i64 k ∧ k ≤ n ∧ Below w3.heap.size w3 wr) (fun i _ => n - (intOf i).toNat)
  case atStart => exact ⟨0, rfl, Nat.zero_le _, Below.refl _ _⟩
  case round =>
    obtain ⟨k, rfl, hk, hbr⟩ := hrel
    by_cases hlt : k < n
    · obtain ⟨g1, rfl, hg1, hg1'⟩ := HP.out (by omega)
      obtain ⟨g2, rfl, hg2, hg2'⟩ := HQ.out (by omega)
      have hget := HLG.out k hlt
      have hr1 : wr.rangeAt g1 (k * 19) (frV (f.of v.data.toList (nParts v.size) k)).toList := by
        rw [Nat.mul_comm]
        exact FrRow.load (below_own HOWN1.out hbr) k _ hget
      have hr2 : wr.rangeAt g2 (k * 19) (frV (f.of v.data.toList (nParts v.size) k)).toList := by
        rw [Nat.mul_comm]
        exact FrRow.load (below_own HOWN2.out hbr) k _ hget
      have HBR := hide hbr
      generalize hF : f.of v.data.toList (nParts v.size) k = F at hget hr1 hr2
      have ne := fun W => frame_neq F W
      clear hF hget
      have HR1 := hide hr1
      have HR2 := hide hr2
      clear hr1 hr2
      go_upto_region 12 with fail
      refine wp_region_quiet_lit (by kernel_rfl) (by kernel_rfl) ?_
      repeat (first
        | ((first
            | (refine wpQuiet_load_mid rfl 52 _ rfl g1 (k * 19) rfl _ _ (range_drewN HR1.out) Try.underlying52 rfl (by kernel_rfl) ?_)
            | (refine wpQuiet_load_mid rfl 52 _ rfl g2 (k * 19) rfl _ _ (range_drewN HR2.out) Try.underlying52 rfl (by kernel_rfl) ?_)
            | (refine wpQuiet_neq rfl 52 _ _ _ rfl (frV F) (frV F) rfl rfl (by kernel_rfl) true (frame_same F) ?_)); simp only [Act.put, List.setIfInBounds_toArray, List.set_cons_zero, List.set_cons_succ])
        | go_big_quiet_step (fail))
      refine wpQuiet_nil ?_
      intro _ hw'
      obtain ⟨nq, hw''⟩ := hw'
      subst hw''
      have hbr := HBR.out
      clear HR1 HR2 ne
      go_wp2_with fail
      go_roundw
      case rel => exact ⟨k + 1, by go_num, by omega, hbr.trans (draws_below _ _ nq)⟩
      case measure => simp [intOf]; omega
    · have hkn : k = n := by omega
      subst hkn
      have HBR := hide hbr
      have HO1 := hide (below_own HOWN1.out hbr)
      clear hbr HOWN1 HOWN2 HQ HS1 HS2 HAW B0
      by_cases hz : k = 0
      · have hno : ¬ (1 ≤ (v.size : Int) ∧ (v.size : Int) ≤ 64) := fun h => by
          have := HN.out
          rw [nParts_yes h.1 h.2] at this
          omega
        have HGN := hide (gnew_no wr v.size hno)
        subst hz
        have happ := fun (W : World) (ty : TypeId) (b : Nat) => append_none W ty b 0 0 cap p (Nat.le_refl _)
        go_wp2_with (first
          | (go_at_call 26; refine HGN.out.mono ?_; rintro e w4 ⟨rfl, rfl⟩)
          | (at_builtin; refine wpList_append_go rfl _ _ 53 rfl _ _ rfl rfl (R := fun v' w' => v' = _ ∧ w' = _) ⟨_, _, happ _ _ _, rfl, rfl⟩ ?_; rintro v' w5 ⟨rfl, rfl⟩))
        go_loopw [11, 12] (fun x i wq => x = .slice (some ⟨wr.heap.size, 0, none⟩) 0 0 ∧ Below w.heap.size w wq) (fun _ _ _ => 0)
        case atStart => exact ⟨rfl, (HB3.out.trans (HBR.out.mono (by omega))).alloc (by have := HBR.out.size; omega) _⟩
        case round =>
          obtain ⟨rfl, hbq⟩ := hrel
          go_wp2_with fail
          go_ret
          exact ⟨rfl, hbq⟩
      · have hyes : 1 ≤ v.size ∧ v.size ≤ 64 := by
          apply Classical.byContradiction
          intro hh
          have := HN.out
          rw [nParts_no (by omega)] at this
          simp at this
          omega
        have HGN := hide (gnew_yes wr v.size hyes.1 hyes.2)
        obtain ⟨g1, rfl, hg1, hg1'⟩ := HP.out (by omega)
        have hfs : FS wr w.heap.size g1 cap L := by
          obtain ⟨g, cap', e, s⟩ := FS.of (l := L) (B := w.heap.size) (x := .slice (some ⟨g1, 0, none⟩) k cap) (w := wr) (by unfold FrRow; rw [HLN.out]; exact owns_mono HO1.out (by omega)) (by rw [HLN.out]; omega)
          simp at e
          rw [← e.1, ← e.2.2] at s
          exact s
        have HFS := hide hfs
        have hlr := HBR.out.size
        clear hfs
        go_upto_region 16 with (go_at_call 26; refine HGN.out.mono ?_; rintro e w4 ⟨gg, gh, gc, rfl, hk4, hgg, hgh, hb4⟩)
        have hfs4 := HFS.out.below hb4
        have happ := fun (ty : TypeId) => hfs4.copy (by rw [HLN.out]; omega) (by rw [HLN.out]; omega) w4.heap.size (w4.alloc (.cells #[] 52)) ty ((Below.refl _ _).alloc (Nat.le_refl _) _)
        rw [HLN.out] at happ
        have HK4 := hide hk4
        have HB4 := hide (HB3.out.trans ((HBR.out.mono (by omega)).trans (hb4.mono (by omega))))
        have HAPP := hide happ
        have hlt4 := hb4.size
        have hkg := hk4.glt
        have hkh := hk4.lt
        clear hk4 hb4 happ hfs4
        go_wp2_with (first
          | (at_builtin; refine wpList_append_go rfl _ _ 53 rfl _ _ rfl rfl (HAPP.out _) ?_; rintro v' w5 ⟨g5, c5, rfl, fs5, hb5⟩))
        obtain ⟨V, hV⟩ : ∃ V, v.data.toList = V := ⟨_, rfl⟩
        have hVl : V.length = v.size := by rw [← hV, size_data]
        obtain ⟨NP, hNP⟩ : ∃ NP, nParts v.size = NP := ⟨_, rfl⟩
        have hNk : NP = k := by have := HN.out; have h2 := nParts_le v.size; omega
        have hLm : L = (List.range k).map (fun i => f.of V NP i) := by
          have := HL.out
          rw [← this, hV]
          unfold splitL
          rw [hVl, hNP, hNk]
          rfl
        have HVV := hide hV
        have HVL := hide hVl
        have HNP := hide hNP
        have HNK := hide hNk
        have hsz5 := hb5.size
        simp at hsz5
        have hinit : PInv f V (List.range k) { value := List.replicate v.size 0, vi := 0, vs := 0, is := false, came := 0, n := 0 } := by
          refine .inr ⟨rfl, zero_ok _, by simp [hVl], ?_⟩
          rw [hVl, hNP, hNk]
          rfl
        have hb45 : Below w4.heap.size w4 w5 := box_below hb5
        have HFS5 := hide (show FS w5 w4.heap.size g5 c5 L from ⟨fs5.cells, by have := fs5.base; simp at this; omega, fs5.lt, fs5.cap⟩)
        have HK5 := hide (HK4.out.below hb45)
        have HB5 := hide (HB4.out.trans (hb45.mono (by omega)))
        have HINIT := hide hinit
        have HLM := hide hLm
        clear hb45 fs5 hb5 hinit hLm HK4 HAPP HFS hV hVl hNP hNk
        go_loopw [11, 12] (fun x i wq => ∃ (left : List Nat) (g' cap' : Nat) (s : Gl) (j : Nat), x = .slice (some ⟨g', 0, none⟩) left.length cap' ∧ i = .int .i64 j ∧ j + left.length = k ∧
          FS wq w4.heap.size g' cap' (left.map fun i => f.of V NP i) ∧ GAt wq gg gh gc s ∧ PInv f V left s ∧ Below w.heap.size w wq ∧ w4.heap.size ≤ wq.heap.size) (fun x _ _ => lenS x)
        case atStart => exact ⟨List.range k, g5, c5, _, 0, by rw [List.length_range], rfl, by rw [List.length_range]; omega, by rw [← HLM.out]; exact HFS5.out, HK5.out, HINIT.out, HB5.out, by omega⟩
        case round =>
          obtain ⟨left, g', cap', s, j, rfl, rfl, hj, hfs, hgl, hinv, hbq, hszq⟩ := hrel
          have hln : (left.map fun i => f.of V NP i).length = left.length := List.length_map _
          by_cases hl0 : left.length = 0
          · rw [hl0]
            go_wp2_with fail
            go_ret
            exact ⟨rfl, hbq⟩
          · have HFS := hide hfs
            have HGL := hide hgl
            have HINV := hide hinv
            have HBQ := hide hbq
            clear hfs hgl hinv hbq
            obtain ⟨N, hN⟩ : ∃ N, left.length = N := ⟨_, rfl⟩
            rw [hN] at hl0 hj hln ⊢
            obtain ⟨K, hK, hturn⟩ : ∃ K : Nat, K < N ∧ ((j < m ∧ ∃ (a : Addr) (x : Int), A = some a ∧ wr.cell? (a.add j) = some (.int .u8 x) ∧ x.tmod N = K ∧ 0 ≤ x ∧ x ≤ 255) ∨ (¬ j < m ∧ K = 0)) := by
              by_cases hjm : j < m
              · obtain ⟨a, x, e, hb, h0, h1, hc⟩ := (HT.out.below HBQ.out) j hjm
                have e1 : x.tmod N = x % N := Int.tmod_eq_emod_of_nonneg h0
                have e2 := Int.emod_nonneg x (show (N : Int) ≠ 0 by omega)
                have e3 := Int.emod_lt_of_pos x (show (0 : Int) < N by omega)
                exact ⟨(x % N).toNat, by omega, .inl ⟨hjm, a, x, e, hc, by omega, h0, h1⟩⟩
              · exact ⟨0, by omega, .inr ⟨hjm, rfl⟩⟩
            go_upto_if 68 with fail
            go_cut [13] from 60 to 120 (fun x wc => x = .int .i64 K ∧ wc = wr)
            case first =>
              rcases hturn with ⟨hjm, a, x, rfl, hcx, htm, hx0, hx1⟩ | ⟨hjm, hK0⟩
              · go_wp2_with fail
                go_meet
                case rel => exact ⟨rfl, rfl⟩
              · go_wp2_with fail
                go_meet
                case rel => exact ⟨by rw [hK0]; rfl, rfl⟩
            case rest =>
              obtain ⟨rfl, rfl⟩ := hcut
              clear hturn
              obtain ⟨i, hi⟩ : ∃ i, left[K]? = some i := ⟨_, List.getElem?_eq_getElem (by omega)⟩
              obtain ⟨F, hF⟩ : ∃ F, f.of V NP i = F := ⟨_, rfl⟩
              have hget : (left.map fun i => f.of V NP i)[K]? = some F := by rw [List.getElem?_map, hi, ← hF]; rfl
              have hr := HFS.out.loadn K F hget
              obtain ⟨s', hput, hinv'⟩ := put_next HINV.out hi
              rw [HVL.out, HNP.out, hF, hN] at hput
              have hsok : s.Ok := by
                rcases HINV.out with h | h
                · exact h.ok
                · exact h.2.1
              have hFok : FrOk F := by
                rw [← hF]
                have hNPle : 0 ≤ NP ∧ NP ≤ 4 := by rw [← HNP.out]; exact nParts_le _
                have hiN : (i : Int) < NP := by
                  have hmem := List.mem_of_getElem? hi
                  rcases HINV.out with h | h
                  · have := h.lt i hmem
                    rwa [HVL.out, HNP.out] at this
                  · have e := h.2.2.2
                    rw [e, HVL.out, HNP.out, List.mem_range] at hmem
                    omega
                refine ⟨⟨by show (0 : Int) ≤ i; omega, by show (i : Int) ≤ 255; omega⟩, ⟨by show (0 : Int) ≤ NP; omega, by show NP ≤ 255; omega⟩, ?_⟩
                show (ofL (chunk V i)).size ≤ _
                rw [ofL_size, chunk_len]
                omega
              have HPUT := hide (put_t HGL.out hsok F hFok hput)
              have HINV' := hide hinv'
              have HR := hide hr
              have HI := hide hi
              clear hput hsok hFok hinv' hr hget hF hi
              go_upto_region 24 with (first
                | (refine wpList_load_mid rfl 52 _ rfl g' (K * 19) rfl _ _ HR.out Try.underlying52 rfl (by kernel_rfl) ?_)
                | (go_at_call 27; refine HPUT.out.mono ?_; rintro e w6 ⟨rfl, hk6, ho6⟩))
              have hb6 := Only.below HBQ.out ho6 (by omega) (by omega) (by have := HBQ.out.size; omega)
              have fs6 : FS w6 w4.heap.size g' cap' (left.map fun i => f.of V NP i) := by
                have hb := HFS.out.base
                exact HFS.out.keep (ho6.block g' HFS.out.lt (by omega) (by omega)) ho6.size
              have hs6 := ho6.size
              obtain ⟨hsl1, A', hsl2, happ⟩ := fs6.cut K (by rw [hln]; exact hK) (by rw [hln]; omega) (by omega)
              rw [hln] at hsl1 hsl2 happ
              have HAPP := hide happ
              have HB6 := hide hb6
              have HK6 := hide hk6
              clear happ hb6 fs6 hk6 ho6
              have hwr : IntKind.i64.wrap ((K : Int) + 1) = (K : Int) + 1 := IntWalk.i64_in _ (by omega)
              go_region_held3 (fun w' => Below w6.heap.size w6 w') (first | exact (Below.refl _ _).drew | (refine Below.trans (by assumption) (Below.mono (by assumption) (Below.size (by assumption)))))
                (first
                  | (refine step_append_ex rfl (.tmp 90) (.tmp 94) 53 rfl _ _ (by simp [Act.eval, Act.put]) (by simp [Act.eval, Act.put]) (HAPP.out _ _ (by assumption)) ?_; rintro v' w7 ⟨g7, c7, rfl, fs7, hb7⟩))
              have hlen : ((left.map fun i => f.of V NP i).eraseIdx K).length = N - 1 := by rw [List.length_eraseIdx_of_lt (by rw [hln]; exact hK), hln]
              have hlen' : (left.eraseIdx K).length = N - 1 := by rw [List.length_eraseIdx_of_lt (by rw [hN]; exact hK), hN]
              rw [map_eraseIdx] at fs7
              have HFS7 := hide fs7
              have hb7 : Below w6.heap.size w6 w7 := by assumption
              have HK7 := hide (HK6.out.below hb7)
              have HB7 := hide (HB6.out.trans (hb7.mono (by omega)))
              have hs7 := hb7.size
              clear fs7 hsl1 hsl2 hb7
              by_cases h1N : N = 1
              · have hp1 : partR (decide (N = 1)) V = v := by rw [h1N, ← HVV.out]; exact ofL_of v
                have hd1 : decide (N = 1) = true := by simp [h1N]
                have hlen0 : ((left.map fun i => f.of V NP i).eraseIdx K).length = 0 := by omega
                rw [hp1, hd1, hlen0]
                go_wp2_with fail
                go_roundw
                case rel => exact ⟨left.eraseIdx K, g7, c7, s', j + 1, by rw [show (left.eraseIdx K).length = 0 by omega], by go_num, by omega, HFS7.out, HK7.out, HINV'.out, HB7.out, by omega⟩
                case measure => simp [lenS]; omega
              · have hp1 : partR (decide (N = 1)) V = ⟨#[]⟩ := by simp [h1N, partR]
                have hd1 : decide (N = 1) = false := by simp [h1N]
                rw [hp1, hd1, hlen]
                have hpos : N - 1 ≠ 0 := by omega
                go_wp2_with fail
                go_roundw
                case rel => exact ⟨left.eraseIdx K, g7, c7, s', j + 1, by rw [hlen'], by go_num, by omega, HFS7.out, HK7.out, HINV'.out, HB7.out, by omega⟩
                case measure => simp [lenS]; omega
end Go.Proofs.Ytoekemceminciaa
