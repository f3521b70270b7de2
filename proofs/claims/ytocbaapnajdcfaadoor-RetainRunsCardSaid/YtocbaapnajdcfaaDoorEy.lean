/- The walks of octets.Eye. -/
import Derived.Test.YtocbaapnajdcfaaDoorCe
import Derived.StillTailTactics
namespace Go.Proofs.YtocbaapnajdcfaaDoor
open Go.RowKit
set_option linter.unusedVariables false
set_option linter.unusedSimpArgs false

/-- An eye in block g: its text, where it stands, whether it is blind. -/
def EyeAt (w : World) (g : Nat) (l : List UInt8) (p : Nat) (bl : Bool) : Prop := w.heap[g]? = some (.cells #[.string (ofL l), .int .i64 p, .bool bl] 109 (0, 0))

set_option maxRecDepth 100000 in
set_option maxHeartbeats 1000000 in
theorem take_yes {w : World} {g : Nat} {l : List UInt8} {p : Nat} (k : EyeAt w g l p false) (hl : l.length ≤ 1000) (n : Nat) (hn : p + n ≤ l.length) :
    Calls Tryd.prog 55 #[.pointer (some ⟨g, 0, none⟩), .int .i64 n] w fun e w' => e = .returned (.string (ofL ((l.drop p).take n))) ∧ EyeAt w' g l (p + n) false ∧ Only g g w w' := by
  have k0 : w.cell? ⟨g, 0, none⟩ = some (.string (ofL l)) := blk_cell k 0
  have k1 : w.cell? ⟨g, 1, none⟩ = some (.int .i64 p) := blk_cell k 1
  have k2 : w.cell? ⟨g, 2, none⟩ = some (.bool false) := blk_cell k 2
  have f1 : w.frozen? ⟨g, 1, none⟩ = false := blk_frozen k 1
  have f2 : w.frozen? ⟨g, 2, none⟩ = false := blk_frozen k 2
  have hz := ofL_size l
  obtain ⟨X, hX⟩ : ∃ X, ofL l = X := ⟨_, rfl⟩
  rw [hX] at hz k0
  have g1 : decide ((n : Int) < 0) = false := by simp
  have g2 : decide ((X.size : Int) - (p : Int) < (n : Int)) = false := by simp; omega
  have i1 : (p : Int) + (n : Int) ≤ (X.size : Int) := by omega
  have HN := hide hn
  have i2 : (X.size : Int) ≤ 1000 := by omega
  have i3 : (0 : Int) ≤ (p : Int) := by omega
  have i4 : (0 : Int) ≤ (n : Int) := by omega
  have K := hide k; have HX := hide hX; have HZ := hide hz
  clear k hX hz hn hl
  go_enter Tryd.func55, Tryd.ntmps55
  go_wp2_with fail
  go_still_tail 25, (by kernel_rfl)
  go_wp2_with fail
  obtain ⟨q, hq⟩ : ∃ q : Nat, p + n = q := ⟨_, rfl⟩
  have hz := HZ.out; have hn := HN.out
  have hqi : (p : Int) + (n : Int) = (q : Int) := by omega
  rw [hqi]
  have hW := set_heap (set_heap K.out 2 (.bool false)) 1 (.int .i64 q)
  have oW := ((Only.refl g g w).set g 2 (.bool false) (.inl rfl)).set g 1 (.int .i64 (q : Int)) (.inl rfl)
  have hW2 : EyeAt ((w.setCell ⟨g, 2, none⟩ (.bool false)).setCell ⟨g, 1, none⟩ (.int .i64 (q : Int))).drew g l q false := hW
  have oW2 := oW.drewN 1
  have oW3 : Only g g w ((w.setCell ⟨g, 2, none⟩ (.bool false)).setCell ⟨g, 1, none⟩ (.int .i64 (q : Int))).drew := oW2
  generalize ((w.setCell ⟨g, 2, none⟩ (.bool false)).setCell ⟨g, 1, none⟩ (.int .i64 (q : Int))).drew = W at hW2 oW3 ⊢
  clear hW oW oW2 k0 k1 k2 f1 f2 K g1 g2 i1
  have k0 : W.cell? ⟨g, 0, none⟩ = some (.string X) := by rw [← HX.out]; exact blk_cell hW2 0
  have k1 : W.cell? ⟨g, 1, none⟩ = some (.int .i64 q) := blk_cell hW2 1
  have hs1 : IntKind.i64.wrap ((q : Int) - (n : Int)) = (p : Int) := by rw [IntWalk.i64_in _ (by omega)]; omega
  have hs2 : (p : Int) ≤ (q : Int) := by omega
  have hs3 : (q : Int) ≤ (X.size : Int) := by omega
  have HW2 := hide hW2; have OW3 := hide oW3
  have hex : X.extract p q = ofL ((l.drop p).take n) := by
    rw [← HX.out, extract_ofL, show q - p = n by omega]
  have HQ := hide hq
  clear hW2 oW3 hqi hq hz hn
  go_quiet (fail)
  go_wp2_with fail
  go_ret
  rw [HQ.out]
  exact ⟨rfl, HW2.out, OW3.out.drewN nq⟩

set_option maxRecDepth 100000 in
set_option maxHeartbeats 1000000 in
theorem take_no {w : World} {g : Nat} {l : List UInt8} {p : Nat} (k : EyeAt w g l p false) (hl : l.length ≤ 1000) (hp : p ≤ l.length) (n : Nat) (hn : l.length < p + n) :
    Calls Tryd.prog 55 #[.pointer (some ⟨g, 0, none⟩), .int .i64 n] w fun e w' => e = .returned (.string ⟨#[]⟩) ∧ EyeAt w' g l p true ∧ Only g g w w' := by
  have k0 : w.cell? ⟨g, 0, none⟩ = some (.string (ofL l)) := blk_cell k 0
  have k1 : w.cell? ⟨g, 1, none⟩ = some (.int .i64 p) := blk_cell k 1
  have k2 : w.cell? ⟨g, 2, none⟩ = some (.bool false) := blk_cell k 2
  have f2 : w.frozen? ⟨g, 2, none⟩ = false := blk_frozen k 2
  have hz := ofL_size l
  obtain ⟨X, hX⟩ : ∃ X, ofL l = X := ⟨_, rfl⟩
  rw [hX] at hz k0
  have g1 : decide ((n : Int) < 0) = false := by simp
  have g3 : IntKind.i64.wrap ((X.size : Int) - (p : Int)) = (X.size : Int) - (p : Int) := IntWalk.i64_in _ (by omega)
  have g2 : decide ((X.size : Int) - (p : Int) < (n : Int)) = true := by simp; omega
  have K := hide k
  clear k hX hz hn hl hp
  go_enter Tryd.func55, Tryd.ntmps55
  go_wp2_with fail
  go_still_tail 25, (by kernel_rfl)
  go_wp2_with fail
  go_ret
  have hW := set_heap K.out 2 (.bool true)
  have oW := (Only.refl g g w).set g 2 (.bool true) (.inl rfl)
  exact ⟨rfl, hW, oW.drewN 1⟩
end Go.Proofs.YtocbaapnajdcfaaDoor
