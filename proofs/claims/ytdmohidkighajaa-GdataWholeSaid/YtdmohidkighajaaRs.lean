/- The reference's Split. -/
import Derived.Test.YtdmohidkighajaaRa
namespace Go.Proofs.Ytdmohidkighajaa
open Go.RowKit
set_option linter.unusedVariables false
set_option linter.unusedSimpArgs false

theorem owns_shape {w : World} {base e size : Nat} {v : Value} {n : Nat} {xs : List Value} (h : w.ownsRow base e size v n xs) : ∃ p cap, v = .slice p n cap ∧ (0 < n → ∃ g, p = some ⟨g, 0, none⟩ ∧ base ≤ g ∧ g < w.heap.size) := by
  rcases h.2 with ⟨rfl, rfl⟩ | ⟨g, cap, cur, rfl, h1, h2, h3⟩
  · exact ⟨none, 0, rfl, by omega⟩
  · exact ⟨_, cap, rfl, fun _ => ⟨g, rfl, h1, (Array.getElem?_eq_some_iff.1 h2).1⟩⟩
theorem owns_cell {w : World} {base e : Nat} {n cap g : Nat} {xs : List Value} (h : w.ownsRow base e 1 (.slice (some ⟨g, 0, none⟩) n cap) n xs) (i : Nat) (u : Value) (hi : xs[i]? = some u) : w.cell? ⟨g, i, none⟩ = some u := by
  have := h.cells (g := g) rfl i u hi
  have e : ((⟨g, 0, none⟩ : Addr).add i) = ⟨g, i, none⟩ := by
    unfold Addr.add
    split <;> simp_all
  rwa [e] at this
theorem strCells_get (l : List UInt8) (n i : Nat) (h : i < n) : (strCells l n)[i]? = some (.string (ofL (chunk l i))) := by simp [strCells, h]
theorem nParts_len {v : ByteArray} (h : ¬ 64 < v.size) : nParts v.size = (((v.size + 15) / 16 : Nat) : Int) := by
  by_cases h0 : 1 ≤ v.size
  · rw [nParts_yes (by omega) (by omega)]; omega
  · rw [nParts_no (by omega)]; omega

theorem owns_at {w w' : World} {base e size g cap n : Nat} {xs : List Value} (h : w.ownsRow base e size (.slice (some ⟨g, 0, none⟩) n cap) n xs) (ho : w'.heap[g]? = w.heap[g]?) : w'.ownsRow base e size (.slice (some ⟨g, 0, none⟩) n cap) n xs := by
  refine ⟨h.1, h.2.imp id ?_⟩
  rintro ⟨g', cap', cur, h1, h2, h3, h4⟩
  have : g = g' := Option.some.inj (congrArg Value.ownBlock h1)
  subst this
  exact ⟨g, cap', cur, h1, h2, ho.trans h3, h4⟩
theorem split_other {wr : World} {b : Nat} (k m : Int) (s : ByteArray) {i : Nat} (hi : i ≠ b) :
    ((((wr.setCell ⟨b, 0, none⟩ (.int .i64 4)).setCell ⟨b, 16, none⟩ (.int .u8 k)).setCell ⟨b, 17, none⟩ (.int .u8 m)).setCell ⟨b, 18, none⟩ (.string s)).heap[i]? = wr.heap[i]? := by
  rw [set_other _ _ hi, set_other _ _ hi, set_other _ _ hi, set_other _ _ hi]

set_option maxHeartbeats 1000000 in
set_option maxRecDepth 20000 in
theorem rsplit_any (f : Fr) (v : ByteArray) (w : World) :
    Calls Try.prog 33 #[.agg (frV f), .string v] w fun e w' => ∃ x, e = .returned x ∧ w'.ownsRow (w.heap.size + 1) 36 19 x (splitL f v.data.toList).length (frCells (splitL f v.data.toList)) ∧ Below w.heap.size w w' := by
  obtain ⟨i0, hi, hz0, hz1, hz2⟩ := info_parts infoFr
  by_cases hbig : 64 < v.size
  · have e : splitL f v.data.toList = [] := by
      unfold splitL
      rw [size_data, nParts_no (by omega)]
      rfl
    rw [e]
    go_enter Try.func33, Try.ntmps33
    go_wp2_with fail
    go_ret
    exact ⟨_, rfl, World.ownsRow_nil _ _ _ _, (fbox w f).bw⟩
  · have hN := nParts_len hbig
    obtain ⟨n, hn, hn0⟩ : ∃ n : Nat, (v.size + 15) / 16 = n ∧ n ≤ 4 := ⟨_, rfl, by omega⟩
    rw [hn] at hN
    have B0 := hide (fbox w f)
    have hall := rall_any v.data.toList (by rw [size_data]; omega) (w.alloc (.cells (frV f) 36))
    rw [ofL_of, size_data, hn] at hall
    have HALL := hide hall
    have HN := hide hN
    clear hall hN hn
    go_enter Try.func33, Try.ntmps33
    go_wp2_with (go_at_call 45; refine HALL.out.mono ?_; rintro e w2 ⟨sx, rfl, howns, hbws⟩)
    have b0 := B0.out
    clear B0 HALL
    obtain ⟨p, cap, rfl, hp⟩ := owns_shape howns
    have hbox : w2.heap[w.heap.size]? = some (.cells (frV f) 36 (0, 0)) := (hbws.block w.heap.size (by simp)).trans b0.blk
    have hlow : Below w.heap.size w w2 := box_below hbws
    have hs2 : w.heap.size + 1 ≤ w2.heap.size := by have := hbws.size; simp at this; omega
    have HBOX := hide hbox
    have HLOW := hide hlow
    have HOWNS := hide (owns_mono (base' := w.heap.size + 1) howns (by simp))
    have HP : Hid (0 < n → ∃ g, p = some ⟨g, 0, none⟩ ∧ w.heap.size + 1 ≤ g ∧ g < w2.heap.size) := hide (by simpa using hp)
    clear hbox hlow howns hbws b0 hp
    go_loopw [6, 7] (fun x i wr => ∃ k : Nat, i = .int .i64 k ∧ k ≤ n ∧ wr.ownsRow w2.heap.size 36 19 x k (frCells ((List.range k).map (f.of v.data.toList n))) ∧
      wr.ownsRow (w.heap.size + 1) 9 1 (.slice p n cap) n (strCells v.data.toList n) ∧
      wr.heap[w.heap.size]? = some (.cells (frV (boxAt f v.data.toList n k)) 36 (0, 0)) ∧ Below w.heap.size w wr ∧ w2.heap.size ≤ wr.heap.size) (fun _ i _ => n - (intOf i).toNat)
    case atStart => exact ⟨0, rfl, Nat.zero_le _, World.ownsRow_nil _ _ _ _, HOWNS.out, HBOX.out, HLOW.out, Nat.le_refl _⟩
    case round =>
      obtain ⟨k, rfl, hk, hown, hstr, hb, hbw, hsz⟩ := hrel
      by_cases hlt : k < n
      · obtain ⟨g, rfl, hg1, hg2⟩ := HP.out (by omega)
        obtain ⟨G, hG, hGe⟩ : ∃ G, boxAt f v.data.toList n k = G ∧ f.of v.data.toList n k = { G with kind := 4, part := k, parts := n, bytes := ofL (chunk v.data.toList k) } := ⟨_, rfl, by cases k <;> rfl⟩
        rw [hG] at hb
        have e0 : wr.cell? ⟨w.heap.size, 0, none⟩ = some (.int .i64 G.kind) := blk_cell hb 0
        have e1 : wr.cell? ⟨w.heap.size, 16, none⟩ = some (.int .u8 G.part) := blk_cell hb 16
        have e2 : wr.cell? ⟨w.heap.size, 17, none⟩ = some (.int .u8 G.parts) := blk_cell hb 17
        have e3 : wr.cell? ⟨w.heap.size, 18, none⟩ = some (.string G.bytes) := blk_cell hb 18
        have f0 := blk_frozen hb 0
        have f1 := blk_frozen hb 16
        have f2 := blk_frozen hb 17
        have f3 := blk_frozen hb 18
        have ec : wr.cell? ⟨g, k, none⟩ = some (.string (ofL (chunk v.data.toList k))) := owns_cell hstr k _ (strCells_get _ _ _ hlt)
        have hne : g ≠ w.heap.size := by omega
        have HG := hide hGe
        have HBK := hide hb
        have HOWN := hide hown
        have HSTR := hide hstr
        have HBW := hide hbw
        clear hb hG hGe hown hbw hstr
        go_upto_region 12 with fail
        obtain ⟨ws, hws, hb, -, hbw⟩ := split_sets (k : Int) (n : Int) (ofL (chunk v.data.toList k)) HBK.out (World.ownsRow_nil wr (w.heap.size + 1) 36 19) HBW.out
        have hoth : ∀ i, i ≠ w.heap.size → ws.heap[i]? = wr.heap[i]? := by rw [hws]; exact fun i h => split_other _ _ _ h
        have hown := owns_kept (w' := ws) HOWN.out (fun i h1 h2 => hoth i (by omega))
        have hstr := owns_kept (w' := ws) HSTR.out (fun i h1 h2 => hoth i (by omega))
        have hsz' : w2.heap.size ≤ ws.heap.size := by
          rw [hws]
          simpa [World.setCell] using hsz
        have hws0 : w.heap.size < ws.heap.size := (Array.getElem?_eq_some_iff.1 hb).1
        rw [← hws]
        have HWS := hide hws
        have HOTH := hide hoth
        clear hws hoth
        go_wp2_with (first
          | (refine wpList_load_row rfl 36 _ rfl _ rfl 36 _ (0, 0) _ hb Try.underlying36 rfl (by kernel_rfl) ?_)
          | (refine wpList_row1 rfl 64 36 _ rfl _ _ 19 64 rfl Try.underlying64 infoFr rfl (by decide) (by decide) rfl ?_)
          | (at_builtin; refine wpList_append_own _ rfl _ _ 64 rfl w2.heap.size 36 i0 (.agg (frV zFr)) 19 64 Try.underlying64 hi hz0 hz1 hz2 rfl (by decide) _ k _ rfl (hown.alloc _) ⟨ws.heap.size, 0, none⟩ 1 1 _ rfl rfl (new_cells _ _ _) (frV_one _) (by unfold maxLen; omega) (by omega) (by simp; omega) ?_; intro v' w3 hown' hgrow3 hnil3))
        go_roundw
        case rel =>
          have hl : f.of v.data.toList (↑n) k = { G with kind := 4, part := (k : Int), parts := (n : Int), bytes := ofL (chunk v.data.toList k) } := HG.out
          have hlt := hown.lt
          refine ⟨k + 1, by go_num, by omega, ?_, ?_, ?_, grown_below (hbw.alloc (Below.size hbw |> fun h => by omega) _) hgrow3 (fun i hi => by have := hlt i hi; omega) (by simp; omega), ?_⟩
          · rw [List.range_succ, List.map_append, List.map_cons, List.map_nil, frCells_snoc, hl]
            exact hown'
          · exact owns_at (hstr.alloc _) (hgrow3.block g (by simp; omega) (fun e => by have := hlt _ e.symm; omega))
          · show w3.heap[w.heap.size]? = some (.cells (frV (f.of v.data.toList (↑n) k)) 36 (0, 0))
            rw [hl, hgrow3.block _ (by simp; omega) (fun e => by have := hlt _ e.symm; omega), old_alloc hb _]
          · have := hgrow3.size
            simp at this
            omega
        case measure => simp [intOf]; omega
      · have hkn : k = n := by omega
        subst hkn
        go_wp2_with fail
        go_ret
        refine ⟨_, rfl, ?_, hbw⟩
        have e : splitL f v.data.toList = (List.range k).map (f.of v.data.toList k) := by
          unfold splitL
          rw [size_data, HN.out]
          rfl
        rw [e, List.length_map, List.length_range]
        exact owns_mono hown hs2
end Go.Proofs.Ytdmohidkighajaa
