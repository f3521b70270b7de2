/- The reference's own cuts: a value's parts, and the lengths of a size. -/
import Derived.Test.YtdmohidkighajaaSp
namespace Go.Proofs.Ytdmohidkighajaa
open Go.RowKit
set_option linter.unusedVariables false
set_option linter.unusedSimpArgs false

def lenOf : Value → Nat
  | .string s => s.size
  | _ => 0
/-- The parts as cells. -/
def strCells (l : List UInt8) (k : Nat) : List Value := (List.range k).map fun i => .string (ofL (chunk l i))
theorem strCells_snoc (l : List UInt8) (k : Nat) : strCells l (k + 1) = strCells l k ++ [.string (ofL (chunk l k))] := by simp [strCells, List.range_succ]
theorem infoStr : (Try.prog.info? 9).map (fun i => (i.zero, i.size, i.bytes)) = some (some (.string ⟨#[]⟩), 1, 16) := by kernel_rfl
theorem str_one (x : ByteArray) : ∀ u ∈ [Value.string x], u.oneCell' = true := by intro u hu; simp at hu; subst hu; rfl
theorem new_one (w : World) (v : Value) (t : TypeId) (j : Nat) (u : Value) (h : [v][j]? = some u) : (w.alloc (.cells #[v] t)).cell? ((⟨w.heap.size, 0, none⟩ : Addr).add j) = some u := new_cells w #[v] t j u h
theorem size_ofL_pos {l : List UInt8} : ofL l = ⟨#[]⟩ ↔ l = [] := by
  constructor
  · intro h
    have := congrArg (fun b : ByteArray => b.data.toList) h
    simpa [ofL_data] using this
  · rintro rfl; rfl

attribute [local go_sem] ofL_toList
set_option maxHeartbeats 1000000 in
set_option maxRecDepth 20000 in
theorem rall_any (l : List UInt8) (hl : l.length ≤ 1000) (w : World) :
    Calls Try.prog 45 #[.string (ofL l)] w fun e w' => ∃ x, e = .returned x ∧ w'.ownsRow w.heap.size 9 1 x ((l.length + 15) / 16) (strCells l ((l.length + 15) / 16)) ∧ Below w.heap.size w w' := by
  obtain ⟨i0, hi, hz0, hz1, hz2⟩ := info_parts infoStr
  go_enter Try.func45, Try.ntmps45
  go_wp2_with fail
  go_loopw [0, 3] (fun s x wr => ∃ k : Nat, s = .string (ofL (l.drop (16 * k))) ∧ 16 * k ≤ l.length ∧ (0 < k → 16 * k < l.length) ∧ wr.ownsRow w.heap.size 9 1 x k (strCells l k) ∧ Below w.heap.size w wr) (fun s _ _ => lenOf s)
  case atStart => exact ⟨0, rfl, Nat.zero_le _, by omega, World.ownsRow_nil _ _ _ _, Below.refl _ _⟩
  case round =>
    obtain ⟨k, rfl, hk, hk0, hown, hbw⟩ := hrel
    obtain ⟨r, hr, hrl⟩ : ∃ r, l.drop (16 * k) = r ∧ r.length = l.length - 16 * k := ⟨_, rfl, List.length_drop⟩
    have hc : chunk l k = r.take 16 := by rw [← hr]; rfl
    have HR := hide hr
    have HC := hide hc
    rw [hr]
    have hsz := ofL_size r
    have HOWN := hide hown
    have HBW := hide hbw
    clear hown hbw hr hc
    by_cases hlt : 16 < r.length
    · have e1 : (ofL r).extract 0 16 = ofL (chunk l k) := by rw [extract_ofL, HC.out]; rfl
      have e2 : (ofL r).extract 16 r.length = ofL (l.drop (16 * (k + 1))) := by
        rw [extract_ofL, ← HR.out, List.drop_drop, List.take_of_length_le (by simp; omega)]
        rfl
      go_wp2_with (at_builtin; refine wpList_append_own _ rfl _ _ 22 rfl w.heap.size 9 i0 (.string ⟨#[]⟩) 1 16 Try.underlying22 hi hz0 hz1 hz2 rfl (by decide) _ k _ rfl (HOWN.out.alloc _) ⟨wr.heap.size, 0, none⟩ 1 1 _ rfl rfl (new_one _ _ _) (str_one _) (by unfold maxLen; omega) (by omega) (by simp; have := HBW.out.size; omega) ?_; intro v' w3 hown' hgrow3 hnil3)
      go_roundw
      case rel =>
        have hlt := HOWN.out.lt
        refine ⟨k + 1, by first | rfl | (show Value.string _ = _; rw [← hrl, e2]), by omega, by intro; omega, ?_, grown_below (HBW.out.alloc (HBW.out.size |> fun h => by omega) _) hgrow3 (fun i hi => by have := hlt i hi; omega) (by simp; have := HBW.out.size; omega)⟩
        rw [strCells_snoc]
        exact hown'
      case measure => simp [lenOf, ofL_size]; omega
    · have hown := HOWN.out
      have hbw := HBW.out
      by_cases h0 : r = []
      · have en : (l.length + 15) / 16 = k := by rw [h0] at hrl; simp at hrl; omega
        have hz : r.isEmpty = true := by simp [h0]
        go_wp2_with fail
        go_ret
        rw [en]
        exact ⟨_, rfl, hown, hbw⟩
      · have hne : r.isEmpty = false := by simp [h0]
        have hpos : 0 < r.length := List.length_pos_iff.2 h0
        have en : (l.length + 15) / 16 = k + 1 := by omega
        have ec : chunk l k = r := by rw [HC.out, List.take_of_length_le (by omega)]
        go_wp2_with (at_builtin; refine wpList_append_own _ rfl _ _ 22 rfl w.heap.size 9 i0 (.string ⟨#[]⟩) 1 16 Try.underlying22 hi hz0 hz1 hz2 rfl (by decide) _ k _ rfl (hown.alloc _) ⟨wr.heap.size, 0, none⟩ 1 1 _ rfl rfl (new_one _ _ _) (str_one _) (by unfold maxLen; omega) (by omega) (by simp; have := hbw.size; omega) ?_; intro v' w3 hown' hgrow3 hnil3)
        go_ret
        have hlt := hown.lt
        rw [en, strCells_snoc, ec]
        exact ⟨_, rfl, hown', grown_below (hbw.alloc (hbw.size |> fun h => by omega) _) hgrow3 (fun i hi => by have := hlt i hi; omega) (by simp; have := hbw.size; omega)⟩

theorem zeros_str (w : World) (n : Nat) : (convert 23 9 (.slice (some ⟨w.heap.size, 0, none⟩) n n)).run Try.prog (w.alloc (.cells (madeCells #[.int .u8 0] n) 5)) = .ok (.string (ofL (List.replicate n 0))) (w.alloc (.cells (madeCells #[.int .u8 0] n) 5)) := by
  have := run_convert_bytes_arg (P := Try.prog) (w.alloc (.cells (madeCells #[.int .u8 0] n) 5)) 23 5 Try.underlying23 Try.underlying5 w.heap.size 0 n n (numsOf (List.replicate n 0)) (by simp [numsOf]) (fun i hi => by
    rw [Nat.zero_add, blk_cell (heap_alloc_new w _) i, madeCells_get _ _ _ hi]
    simp [numsOf, List.getD, hi]) 9 Try.underlying9
  rw [strOf_nums] at this
  exact this

theorem lengths_any (n : Nat) (hn : n ≤ 1000) (w : World) :
    Calls Try.prog 44 #[.int .i64 n] w fun e w' => ∃ x, e = .returned x ∧ w'.ownsRow w.heap.size 9 1 x ((n + 15) / 16) (strCells (List.replicate n 0) ((n + 15) / 16)) ∧ Below w.heap.size w w' := by
  have hmk := make_u8 23 5 Try.underlying23 info_u8 n (by omega)
  have hst := zeros_str w n
  have hr := rall_any (List.replicate n 0) (by simpa using hn) (w.alloc (.cells (madeCells #[.int .u8 0] n) 5))
  rw [List.length_replicate] at hr
  have HR := hide hr
  clear hr
  go_enter Try.func44, Try.ntmps44
  go_wp2_with (go_at_call 45; refine HR.out.mono ?_; rintro e w' ⟨x, rfl, hown, hbw⟩)
  go_ret
  exact ⟨_, rfl, owns_mono hown (by simp), box_below hbw⟩
end Go.Proofs.Ytdmohidkighajaa
