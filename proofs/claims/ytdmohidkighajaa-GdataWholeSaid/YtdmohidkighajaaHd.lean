/- The walk of GdataComes' closure. -/
import Derived.Test.YtdmohidkighajaaHc
namespace Go.Proofs.Ytdmohidkighajaa
open Go.RowKit
set_option linter.unusedVariables false
set_option linter.unusedSimpArgs false

/-- Only blocks p, s, g and h have turned (and what is new). -/
structure Quad (p s g h : Nat) (w w' : World) : Prop where
  os : w'.os = w.os
  tape : w'.tape = w.tape
  output : w'.output = w.output
  size : w.heap.size ≤ w'.heap.size
  block : ∀ k, k < w.heap.size → k ≠ p → k ≠ s → k ≠ g → k ≠ h → w'.heap[k]? = w.heap[k]?
theorem Quad.refl (p s g h : Nat) (w : World) : Quad p s g h w w := ⟨rfl, rfl, rfl, Nat.le_refl _, fun _ _ _ _ _ _ => rfl⟩
theorem Quad.below {p s g h : Nat} {a w w' : World} (q : Quad p s g h a w) (b : Below w.heap.size w w') : Quad p s g h a w' :=
  ⟨b.os.trans q.os, b.tape.trans q.tape, b.output.trans q.output, Nat.le_trans q.size b.size, fun k hk h1 h2 h3 h4 => (b.block k (Nat.lt_of_lt_of_le hk q.size)).trans (q.block k hk h1 h2 h3 h4)⟩
theorem Quad.one {p s g h x : Nat} {a w w' : World} (q : Quad p s g h a w) (o : Only x x w w') (hx : x = p ∨ x = s ∨ x = g ∨ x = h) : Quad p s g h a w' :=
  ⟨o.os.trans q.os, o.tape.trans q.tape, o.output.trans q.output, Nat.le_trans q.size o.size, fun k hk h1 h2 h3 h4 => (o.block k (Nat.lt_of_lt_of_le hk q.size) (by rcases hx with rfl | rfl | rfl | rfl <;> assumption) (by rcases hx with rfl | rfl | rfl | rfl <;> assumption)).trans (q.block k hk h1 h2 h3 h4)⟩
theorem Quad.three {p s g h : Nat} {a w w' : World} (q : Quad p s g h a w) (o : Three s g h w w') : Quad p s g h a w' :=
  ⟨o.os.trans q.os, o.tape.trans q.tape, o.output.trans q.output, Nat.le_trans q.size o.size, fun k hk h1 h2 h3 h4 => (o.block k (Nat.lt_of_lt_of_le hk q.size) h2 h3 h4).trans (q.block k hk h1 h2 h3 h4)⟩
theorem Quad.to {p s g h B : Nat} {a w w' : World} (b : Below B a w) (q : Quad p s g h w w') (hp : B ≤ p) (hs : B ≤ s) (hg : B ≤ g) (hh : B ≤ h) (hB : B ≤ w.heap.size) : Below B a w' :=
  b.trans ⟨q.os, q.tape, q.output, q.size, fun k hk => q.block k (by omega) (by omega) (by omega) (by omega) (by omega)⟩
theorem Quad.blk {p s g h b : Nat} {w w' : World} {o : Obj} (q : Quad p s g h w w') (hb : w.heap[b]? = some o) (h1 : b ≠ p) (h2 : b ≠ s) (h3 : b ≠ g) (h4 : b ≠ h) : w'.heap[b]? = some o := (q.block b (blk_lt hb) h1 h2 h3 h4).trans hb

/-- A publisher and a subscriber in memory. -/
structure CW (w : World) (p s g h c n : Nat) (P : Pb) (G : Gl) (S : Sb) : Prop where
  pa : PAt w p P
  sa : SAt w s g S
  ga : GAt w g h c G
  inv : CInv n P G S
structure CAp (p s g h : Nat) : Prop where
  ps : p ≠ s
  pg : p ≠ g
  ph : p ≠ h
  sg : s ≠ g
  sh : s ≠ h

/-- What the closure leaves. -/
def ComesPost (w : World) (p s g h c n : Nat) (P : Pb) (e : Ending) (w' : World) : Prop := e = .returned (.bool true) ∧ ∃ G S, CW w' p s g h c n P G S ∧ Quad p s g h w w'

set_option maxHeartbeats 4000000 in
set_option maxRecDepth 20000 in
theorem comes_all {w : World} {p s g h c n bp bs : Nat} {P : Pb} {G : Gl} {S : Sb} (k : CW w p s g h c n P G S) (ap : CAp p s g h) (hls : 0 < P.ls) (count : Nat) (hc : count ≤ 100)
    (hbp : w.heap[bp]? = some (.cells #[.pointer (some ⟨p, 0, none⟩)] 25 (0, 0))) (hbs : w.heap[bs]? = some (.cells #[.pointer (some ⟨s, 0, none⟩)] 28 (0, 0)))
    (d1 : bp ≠ p ∧ bp ≠ s ∧ bp ≠ g ∧ bp ≠ h) (d2 : bs ≠ p ∧ bs ≠ s ∧ bs ≠ g ∧ bs ≠ h) :
    Calls Try.prog 10 #[.int .i64 count, .pointer (some ⟨bp, 0, none⟩), .pointer (some ⟨bs, 0, none⟩)] w (ComesPost w p s g h c n (P.steps count)) := by
  have K := hide k; have HBP := hide hbp; have HBS := hide hbs; have D1 := hide d1; have D2 := hide d2; have AP := hide ap
  clear k hbp hbs d1 d2 ap
  go_enter Try.func10, Try.ntmps10
  go_wp2_with fail
  go_loopw [10] (fun i wr => ∃ (k : Nat) (G : Gl) (S : Sb), i = .int .i64 k ∧ k ≤ count ∧ CW wr p s g h c n (P.steps k) G S ∧ Quad p s g h w wr) (fun i _ => count - (intOf i).toNat)
  case atStart => exact ⟨0, G, S, rfl, Nat.zero_le _, K.out, Quad.refl _ _ _ _ _⟩
  case round =>
    obtain ⟨k, G1, S1, rfl, hk, hcw, hq⟩ := hrel
    have HCW := hide hcw; have HQ := hide hq
    clear hcw hq
    by_cases hlt : k < count
    · have hls1 : 0 < (P.steps k).ls := by rw [(steps_keeps P k).1]; exact hls
      have cbp : wr.cell? ⟨bp, 0, none⟩ = some (.pointer (some ⟨p, 0, none⟩)) := blk_cell (HQ.out.blk HBP.out D1.out.1 D1.out.2.1 D1.out.2.2.1 D1.out.2.2.2) 0
      obtain ⟨a, b, e0, G', hput, he0, hinv'⟩ := HCW.out.inv.step hls1
      have hfok := frame_ok HCW.out.inv.ok hls1
      have hnx := pnext_yes HCW.out.pa HCW.out.inv.ok hls1
      have HPUT := hide hput; have HINV := hide hinv'; have HE0 := hide he0; have HFOK := hide hfok
      have HST : Hid ((P.steps k).step = P.steps (k + 1)) := hide rfl
      generalize hF : (P.steps k).frame = F at hnx HPUT HINV HFOK
      have HNX := hide hnx
      clear hput hinv' he0 hfok hnx hF
      go_upto_region 4 with (first
        | (go_at_call 11; refine HNX.out.mono ?_; rintro e w4 ⟨rfl, k4, o4⟩)
        | (refine wpList_store_new rfl 36 _ _ rfl w4 36 _ (frV F) rfl rfl (by kernel_rfl) rfl (frV_one F) ?_))
      have hb5 : Below w4.heap.size w4 (w4.alloc (.cells (frV F) 36)) := (Below.refl _ _).alloc (Nat.le_refl _) _
      have hx5 : (w4.alloc (.cells (frV F) 36)).heap[w4.heap.size]? = some (.cells (frV F) 36 (0, 0)) := heap_alloc_new w4 _
      have ks5 : SAt (w4.alloc (.cells (frV F) 36)) s g S1 := blk_below (blk_only HCW.out.sa o4 AP.out.ps.symm AP.out.ps.symm) hb5
      have kg5 : GAt (w4.alloc (.cells (frV F) 36)) g h c G1 := (HCW.out.ga.keep o4 AP.out.pg.symm AP.out.pg.symm AP.out.ph.symm AP.out.ph.symm).below hb5
      have kp5 := blk_below k4 hb5
      have q5 : Quad p s g h w (w4.alloc (.cells (frV F) 36)) := (HQ.out.one o4 (.inl rfl)).below hb5
      have hsp := sput_any ks5 kg5 HCW.out.inv.go AP.out.sg AP.out.sh F HFOK.out HPUT.out
      have cbs : (w4.alloc (.cells (frV F) 36)).cell? ⟨bs, 0, none⟩ = some (.pointer (some ⟨s, 0, none⟩)) := blk_cell (q5.blk HBS.out D2.out.1 D2.out.2.1 D2.out.2.2.1 D2.out.2.2.2) 0
      have HSP := hide hsp; have KP5 := hide kp5; have Q5 := hide q5
      clear hsp kp5 q5 ks5 kg5 hb5 k4 o4 HNX HPUT cbp
      generalize hw5 : w4.alloc (.cells (frV F) 36) = w5 at HSP KP5 Q5 hx5 cbs ⊢
      clear hw5
      generalize w4.heap.size = x at hx5 ⊢
      go_upto_region 5 with (first
        | (refine wpList_load_row rfl 36 _ rfl _ rfl 36 (frV F) (0, 0) _ hx5 Try.underlying36 rfl (by kernel_rfl) ?_)
        | (go_at_call 12; refine HSP.out.mono ?_; rintro e w6 ⟨rfl, ks6, kg6, t6⟩))
      have kp6 : PAt w6 p (P.steps (k + 1)) := (t6.block p (blk_lt KP5.out) AP.out.ps AP.out.pg AP.out.ph).trans (by rw [← HST.out]; exact KP5.out)
      have hcw6 : CW w6 p s g h c n (P.steps (k + 1)) G' (S1.took a b e0 F) := ⟨kp6, ks6, kg6, by rw [← HST.out]; exact HINV.out⟩
      have HCW6 := hide hcw6; have Q6 := hide (Q5.out.three t6)
      clear hcw6 kp6 ks6 kg6 t6 HSP KP5 Q5 hx5 cbs
      rcases HE0.out with rfl | rfl
      · go_wp2_with fail
        go_roundw
        case rel => exact ⟨k + 1, _, _, by go_num, by omega, HCW6.out, Q6.out⟩
        case measure => simp [intOf]; omega
      · go_wp2_with fail
        go_roundw
        case rel => exact ⟨k + 1, _, _, by go_num, by omega, HCW6.out, Q6.out⟩
        case measure => simp [intOf]; omega
    · have hkc : k = count := by omega
      subst hkc
      go_wp2_with fail
      go_ret
      exact ⟨rfl, G1, S1, HCW.out, HQ.out⟩
end Go.Proofs.Ytdmohidkighajaa
