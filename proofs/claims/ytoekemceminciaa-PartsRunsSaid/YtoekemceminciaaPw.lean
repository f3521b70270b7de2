/- The walk of PartsWhole. -/
import Derived.Test.YtoekemceminciaaMc
namespace Go.Proofs.Ytoekemceminciaa
open Go.RowKit
set_option linter.unusedVariables false
set_option linter.unusedSimpArgs false

/-- Strings that came in. -/
def Strs (W : World) (A : Option Addr) (n : Nat) (vals : Nat → ByteArray) : Prop := ∀ i, i < n → ∃ a : Addr, A = some a ∧ a.block < W.heap.size ∧ W.cell? (a.add i) = some (.string (vals i))
theorem Strs.below {W w : World} {A : Option Addr} {n : Nat} {vals : Nat → ByteArray} (h : Strs W A n vals) (b : Below W.heap.size W w) : Strs w A n vals := by
  intro i hi
  obtain ⟨a, e, hb, hc⟩ := h i hi
  refine ⟨a, e, Nat.lt_of_lt_of_le hb b.size, ?_⟩
  rw [World.cell?_of_block (w := W) (b.block _ (by rw [block_add]; exact hb)), hc]
/-- Parts of values, by numbers, that came in. -/
def Cames (W : World) (A : Option Addr) (n : Nat) : Prop := ∀ i, i < n → ∃ (a : Addr) (x y : Int), A = some a ∧ a.block < W.heap.size ∧ 0 ≤ x ∧ x ≤ 255 ∧ 0 ≤ y ∧ y ≤ 255 ∧ W.cell? (a.add (i * 2)) = some (.int .u8 x) ∧ W.cell? ⟨(a.add (i * 2)).block, (a.add (i * 2)).off + 1, none⟩ = some (.int .u8 y)
theorem Cames.below {W w : World} {A : Option Addr} {n : Nat} (h : Cames W A n) (b : Below W.heap.size W w) : Cames w A n := by
  intro i hi
  obtain ⟨a, x, y, e, hb, x0, x1, y0, y1, hc, hd⟩ := h i hi
  refine ⟨a, x, y, e, Nat.lt_of_lt_of_le hb b.size, x0, x1, y0, y1, ?_, ?_⟩
  · rw [World.cell?_of_block (w := W) (b.block _ (by rw [block_add]; exact hb)), hc]
  · rw [World.cell?_of_block (w := W) (b.block _ (by show (a.add (i * 2)).block < _; rw [block_add]; exact hb)), hd]

set_option maxHeartbeats 1000000 in
set_option maxRecDepth 20000 in
theorem pwhole_long (size : Int) (h0 : 0 ≤ size) (h1 : size ≤ 255) (A B : Option Addr) (nv c m d : Nat) (w : World) (hbig : nv < 1 ∨ 8 < nv ∨ 100 < m) :
    Calls Try.prog 7 #[.int .u8 size, .slice A nv c, .slice B m d] w fun e w' => e = .returned (.bool true) ∧ Below w.heap.size w w' := by
  have HAW := hide (awake_any w)
  go_enter Try.func7, Try.ntmps7
  go_upto_region 3 with (go_at_call 23; refine HAW.out.mono ?_; rintro e w1 ⟨rfl, hb1⟩)
  have HB1 := hide hb1
  clear hb1
  by_cases c1 : nv < 1
  · go_wp2_with fail
    go_ret
    exact ⟨rfl, HB1.out⟩
  · by_cases c2 : 8 < nv
    · go_wp2_with fail
      go_ret
      exact ⟨rfl, HB1.out⟩
    · have c3 : 100 < m := by omega
      go_wp2_with fail
      go_ret
      exact ⟨rfl, HB1.out⟩

/-- The frames of a value, as a slice. -/
def slV (NP : Nat) (p : Nat × Nat) : Value := .slice (some ⟨p.1, 0, none⟩) NP p.2
theorem infoFrs : (Try.prog.info? 53).map (fun i => (i.zero, i.size, i.bytes)) = some (some (.slice none 0 0), 1, 24) := by kernel_rfl
theorem slV_one (NP : Nat) (p : Nat × Nat) : ∀ u ∈ [slV NP p], u.oneCell' = true := by intro u hu; simp at hu; subst hu; rfl

/-- The row of all values' frames. -/
structure AllAt (w : World) (B : Nat) (x : Value) (n : Nat) (vals : Nat → ByteArray) (ps : List (Nat × Nat)) : Prop where
  own : w.ownsRow B 53 1 x ps.length (ps.map (slV (nParts n).toNat))
  fr : ∀ i p, ps[i]? = some p → w.ownsRow B 52 19 (slV (nParts n).toNat p) (nParts n).toNat (frCells (splitL (fW i) (padV n (vals i).data.toList)))

theorem own_ne {w : World} {B B' e e' size size' n n' : Nat} {x y : Value} {xs ys : List Value} (hx : w.ownsRow B e size x n xs) (hy : w.ownsRow B' e' size' y n' ys) (he : e ≠ e') {g : Nat} (hg : y.ownBlock = some g) : x.ownBlock ≠ some g := by
  intro h
  rcases hx.2 with ⟨rfl, _⟩ | ⟨a, cap, cur, rfl, _, h1, _⟩
  · cases h
  · rcases hy.2 with ⟨rfl, _⟩ | ⟨b, cap', cur', rfl, _, h2, _⟩
    · cases hg
    · have e1 : a = g := Option.some.inj h
      have e2 : b = g := Option.some.inj hg
      subst e1 e2
      rw [h1] at h2
      simp at h2
      exact he h2.2
theorem AllAt.below {w w' : World} {B n : Nat} {x : Value} {vals : Nat → ByteArray} {ps : List (Nat × Nat)} (h : AllAt w B x n vals ps) (b : Below w.heap.size w w') : AllAt w' B x n vals ps :=
  ⟨below_own h.own b, fun i p hp => below_own (h.fr i p hp) b⟩
theorem AllAt.cell {w : World} {B n gx cx k : Nat} {vals : Nat → ByteArray} {ps : List (Nat × Nat)} (h : AllAt w B (.slice (some ⟨gx, 0, none⟩) k cx) n vals ps) (hk : ps.length = k) (i : Nat) (p : Nat × Nat) (hp : ps[i]? = some p) : w.cell? ⟨gx, i, none⟩ = some (slV (nParts n).toNat p) := by
  have ho := h.own
  rw [hk] at ho
  exact owns_cell ho i _ (by rw [List.getElem?_map, hp]; rfl)
theorem AllAt.load {w : World} {B n : Nat} {x : Value} {vals : Nat → ByteArray} {ps : List (Nat × Nat)} (h : AllAt w B x n vals ps) (i j : Nat) (p : Nat × Nat) (hp : ps[i]? = some p) (hj : j < (nParts n).toNat) :
    w.rangeAt p.1 (j * 19) (frV ((fW i).of (padV n (vals i).data.toList) (nParts n) j)).toList := by
  have := h.fr i p hp
  have hg := splitL_get (fW i) (padV n (vals i).data.toList) j (by rw [padV_len]; exact hj)
  rw [padV_len] at hg
  rw [Nat.mul_comm]
  exact FrRow.load this j _ hg
theorem fr_step {w w4 : World} {B B' n NP : Nat} {x : Value} {xs ys : List Value} {p : Nat × Nat} {o : Obj} (hx : w.ownsRow B 53 1 x n xs) (hp : w.ownsRow B' 52 19 (slV NP p) NP ys) (hg : (w.alloc o).grownBy w4 x.ownBlock) : w4.ownsRow B' 52 19 (slV NP p) NP ys := by
  have hne := own_ne hx hp (by decide) (g := p.1) rfl
  have hlt := (hp.lt p.1 rfl).2
  exact owns_at hp ((hg.block p.1 (by simp; omega) (fun e => hne e.symm)).trans (Below.heap_alloc w o p.1 hlt))
theorem AllAt.snoc {w w3 w4 : World} {B B' n : Nat} {x v' : Value} {vals : Nat → ByteArray} {ps : List (Nat × Nat)} {p : Nat × Nat} {o : Obj} (h : AllAt w B x n vals ps) (hb : Below w.heap.size w w3)
    (hy : w3.ownsRow B' 52 19 (slV (nParts n).toNat p) (nParts n).toNat (frCells (splitL (fW ps.length) (padV n (vals ps.length).data.toList)))) (hBB : B ≤ B') (hg : (w3.alloc o).grownBy w4 x.ownBlock)
    (h4 : w4.ownsRow B 53 1 v' (ps.length + 1) (ps.map (slV (nParts n).toNat) ++ [slV (nParts n).toNat p])) : AllAt w4 B v' n vals (ps ++ [p]) := by
  have h3 := below_own h.own hb
  refine ⟨by rw [List.length_append, List.map_append]; exact h4, fun i q hq => ?_⟩
  by_cases hi : i < ps.length
  · rw [List.getElem?_append_left hi] at hq
    exact fr_step h3 (below_own (h.fr i q hq) hb) hg
  · rw [List.getElem?_append_right (by omega)] at hq
    have hlt := (List.getElem?_eq_some_iff.1 hq).1
    have e : i = ps.length := by simp at hlt; omega
    subst e
    simp at hq
    subst hq
    exact fr_step h3 (owns_mono hy hBB) hg

set_option maxHeartbeats 1000000 in
set_option maxRecDepth 20000 in
theorem pwhole_any (size : Int) (h0 : 0 ≤ size) (h1 : size ≤ 255) (A B : Option Addr) (nv c m d : Nat) (w : World) (hnv1 : 1 ≤ nv) (hnv2 : nv ≤ 8) (hm : m ≤ 100) (vals : Nat → ByteArray) (hS : Strs w A nv vals) (hC : Cames w B m) :
    Calls Try.prog 7 #[.int .u8 size, .slice A nv c, .slice B m d] w fun e w' => e = .returned (.bool true) ∧ Below w.heap.size w w' := by
  have HAW := hide (awake_any w)
  have HS := hide hS
  have HC := hide hC
  clear hS hC
  obtain ⟨n, hn, hn1, hn2⟩ : ∃ n : Nat, 1 + size % 64 = (n : Int) ∧ 1 ≤ n ∧ n ≤ 64 := by
    exact ⟨(1 + size % 64).toNat, by omega, by omega, by omega⟩
  obtain ⟨i0, hi, hz0, hz1, hz2⟩ := info_parts infoFrs
  have HN := hide hn
  clear hn
  go_enter Try.func7, Try.ntmps7
  go_upto_region 4 with (go_at_call 23; refine HAW.out.mono ?_; rintro e w1 ⟨rfl, hb1⟩)
  rw [HN.out]
  have HB1 := hide hb1
  clear hb1
  have hNP : ∃ NP : Nat, (nParts n).toNat = NP ∧ 1 ≤ NP ∧ NP ≤ 4 := ⟨_, rfl, by rw [nParts_yes (by omega) (by omega)]; omega, by have := nParts_le n; omega⟩
  obtain ⟨NP, hNP, hNP1, hNP4⟩ := hNP
  have HNP := hide hNP
  clear hNP
  go_wp2_with fail
  go_loopw [8, 44] (fun x i wr => ∃ (k : Nat) (ps : List (Nat × Nat)), i = .int .i64 k ∧ k ≤ nv ∧ ps.length = k ∧ AllAt wr w.heap.size x n vals ps ∧ Below w.heap.size w wr) (fun _ i _ => nv - (intOf i).toNat)
  case atStart => exact ⟨0, [], rfl, Nat.zero_le _, rfl, ⟨World.ownsRow_nil _ _ _ _, fun i p h => by simp at h⟩, HB1.out⟩
  case round =>
    obtain ⟨k, ps, rfl, hk, hps, hall, hbr⟩ := hrel
    have HALL := hide hall
    have HBR := hide hbr
    clear hall hbr
    by_cases hlt : k < nv
    · obtain ⟨a, rfl, hab, hac⟩ := (HS.out.below HBR.out) k hlt
      have hmk := make_u8 41 5 Try.underlying41 info_u8 n (by omega)
      have hmc := fun ty => made_copy n (by omega) (vals k) wr ty
      have HMC := hide hmc
      clear hmc
      have hac2 : (wr.alloc (.cells (madeCells #[.int .u8 0] n) 5)).cell? (a.add k) = some (.string (vals k)) := by
        rw [World.cell?_of_block (w := wr) (Below.heap_alloc wr _ _ (by rw [block_add]; exact hab)), hac]
      go_upto_region 12 with (refine wpList_copy_ex rfl (.tmp 49) (.tmp 53) 41 9 rfl (.slice (some ⟨wr.heap.size, 0, none⟩) n n) (.string (vals k)) rfl rfl (R := fun w' => Below wr.heap.size wr w' ∧ wr.heap.size < w'.heap.size ∧ ∀ W' : World, W'.heap[wr.heap.size]? = w'.heap[wr.heap.size]? → (convert 41 9 (.slice (some ⟨wr.heap.size, 0, none⟩) n n)).run Try.prog W' = .ok (.string (ofL (padV n (vals k).data.toList))) W') (HMC.out _) ?_; rintro w2 ⟨hb2, hlt2, hconv⟩)
      have hcv := hconv w2 rfl
      have hsp := split_any (fW k) (ofL (padV n (vals k).data.toList)) w2
      have hsl : (splitL (fW k) (padV n (vals k).data.toList)).length = NP := by rw [splitL_len, padV_len, HNP.out]
      rw [ofL_data, hsl] at hsp
      have HSP := hide hsp
      have HB2 := hide hb2
      have HSL := hide hsl
      clear hconv hsp hb2 hsl
      go_wp2_with (first
        | (refine wpList_buildTo rfl 50 _ rfl _ rfl #[.int .u16 ((k / 3 : Nat) : Int), .int .u32 k] (by kernel_rfl) ?_)
        | (refine wpList_buildTo rfl 52 _ rfl _ rfl (frV (fW k)) (by kernel_rfl) ?_)
        | (go_at_call 24; refine HSP.out.mono ?_; rintro e w3 ⟨y, rfl, howny, hb3⟩; obtain ⟨py, cy, rfl, hpy⟩ := owns_shape howny; obtain ⟨gy, rfl, hgy1, hgy2⟩ := hpy (by omega); have hb13 := HB2.out.trans (hb3.mono (by have := HB2.out.size; omega)); have HO3 := hide (below_own HALL.out.own hb13); have HY := hide howny; have HB13 := hide hb13; clear howny hb3 hb13 hpy)
        | (at_builtin; refine wpList_append_own _ rfl _ _ 62 rfl w.heap.size 53 i0 (.slice none 0 0) 1 24 Try.underlying62 hi hz0 hz1 hz2 rfl (by decide) _ ps.length _ rfl (HO3.out.alloc _) ⟨w3.heap.size, 0, none⟩ 1 1 [slV NP (gy, cy)] rfl rfl (new_one _ _ _) (slV_one _ _) (by unfold maxLen; omega) (by omega) (by simp; have := HBR.out.size; have := HB13.out.size; omega) ?_; intro v' w4 hown4 hgrow4 hnil4))
      go_roundw
      case rel =>
        have hy := HY.out
        have hown4' : w4.ownsRow w.heap.size 53 1 v' (ps.length + 1) (ps.map (slV (nParts n).toNat) ++ [slV (nParts n).toNat (gy, cy)]) := by
          have h := hown4
          rw [HNP.out] at h ⊢
          exact h
        refine ⟨k + 1, ps ++ [(gy, cy)], by go_num, by omega, by rw [List.length_append, hps]; rfl, HALL.out.snoc HB13.out (by rw [hps, HNP.out]; exact hy) (by have := HBR.out.size; omega) hgrow4 hown4', ?_⟩
        have hlt4 := HO3.out.lt
        have hs1 := HBR.out.size
        have hs2 := HB13.out.size
        exact grown_below (((HBR.out.trans (HB13.out.mono (by omega))).alloc (by omega) _)) hgrow4 (fun i hi => by have := hlt4 i hi; omega) (by simp; omega)
      case measure => simp [intOf]; omega
    · have hkn : k = nv := by omega
      subst hkn
      clear HAW hz0 hz1 hz2 hi
      obtain ⟨px, cx, rfl, hpx⟩ := owns_shape HALL.out.own
      obtain ⟨gx, rfl, hgx1, hgx2⟩ := hpx (by omega)
      rw [hps]
      have HGN := hide (gnew_yes wr n hn1 hn2)
      go_upto_region 16 with (go_at_call 26; refine HGN.out.mono ?_; rintro e wg ⟨gg, gh, gc, rfl, hk4, hgg, hgh, hb4⟩)
      have HAG := hide (show AllAt wg w.heap.size (.slice (some ⟨gx, 0, none⟩) k cx) n vals ps from by rw [← hps]; exact ⟨below_own HALL.out.own hb4, fun i p h => below_own (HALL.out.fr i p h) hb4⟩)
      have HKG := hide hk4
      have HBG := hide (HBR.out.trans (hb4.mono (by have := HBR.out.size; omega)))
      have hsg := hb4.size
      have hkg := hk4.glt
      have hkh := hk4.lt
      have hsr := HBR.out.size
      have HB4 := hide hb4
      have HALL := hide (show AllAt wr w.heap.size (.slice (some ⟨gx, 0, none⟩) k cx) n vals ps from by rw [← hps]; exact HALL.out)
      clear hk4 hb4 hpx HAG
      go_wp2_with fail
      go_loopw [12, 73] (fun x12 i wq => ∃ (j : Nat) (s : Gl) (last : Int), x12 = .int .i64 last ∧ i = .int .i64 j ∧ j ≤ m ∧ Only gg gh wg wq ∧ GAt wq gg gh gc s ∧ WInv n (fun i => padV n (vals i).data.toList) s last) (fun _ i _ => m - (intOf i).toNat)
      case atStart => exact ⟨0, _, -1, rfl, rfl, Nat.zero_le _, Only.refl _ _ _, HKG.out, ⟨zero_ok _, by simp, .inl ⟨rfl, rfl⟩⟩⟩
      case round =>
        obtain ⟨j, s, last, rfl, rfl, hj, ho, hgl, hinv⟩ := hrel
        have hbq := Only.below HBG.out ho (by omega) (by omega) (by have := HBG.out.size; omega)
        have HO := hide ho
        have HGL := hide hgl
        have HINV := hide hinv
        have HBQ := hide hbq
        have hszq := ho.size
        clear ho hgl hinv hbq
        by_cases hlt : j < m
        · obtain ⟨a, x, y, rfl, hab, x0, x1, y0, y1, hcx, hcy⟩ := (HC.out.below HBQ.out) j hlt
          go_upto_region 19 with fail
          obtain ⟨w5, hw5⟩ : ∃ w5, wr.alloc (.cells #[.int .u8 x, .int .u8 y] 64) = w5 := ⟨_, rfl⟩
          have hb5 : Below wr.heap.size wr w5 := by rw [← hw5]; exact (Below.refl _ _).alloc (Nat.le_refl _) _
          have c0 : w5.cell? ⟨wr.heap.size, 0, none⟩ = some (.int .u8 x) := by rw [← hw5]; exact blk_cell (heap_alloc_new wr _) 0
          have c1 : w5.cell? ⟨wr.heap.size, 1, none⟩ = some (.int .u8 y) := by rw [← hw5]; exact blk_cell (heap_alloc_new wr _) 1
          rw [hw5]
          clear hw5 hcx hcy
          have hbl5 := (Only.below HB4.out HO.out hgg hgh (by have := HB4.out.size; omega)).trans (hb5.mono (by have := HO.out.size; omega))
          have hal5 := HALL.out.below hbl5
          obtain ⟨K, hK, hKk⟩ : ∃ K : Nat, x % (k : Int) = K ∧ K < k := by
            have e2 := Int.emod_nonneg x (show (k : Int) ≠ 0 by omega)
            have e3 := Int.emod_lt_of_pos x (show (0 : Int) < k by omega)
            exact ⟨(x % k).toNat, by omega, by omega⟩
          obtain ⟨I, hI, hIN⟩ : ∃ I : Nat, y % (NP : Int) = I ∧ I < NP := by
            have e2 := Int.emod_nonneg y (show (NP : Int) ≠ 0 by omega)
            have e3 := Int.emod_lt_of_pos y (show (0 : Int) < NP by omega)
            exact ⟨(y % NP).toNat, by omega, by omega⟩
          obtain ⟨p, hp⟩ : ∃ p, ps[K]? = some p := ⟨_, List.getElem?_eq_getElem (by omega)⟩
          have cK : w5.cell? ⟨gx, K, none⟩ = some (.slice (some ⟨p.1, 0, none⟩) NP p.2) := by
            have := hal5.cell hps K p hp
            rw [HNP.out] at this
            exact this
          have hr := hal5.load K I p hp (by rw [HNP.out]; exact hIN)
          have HR := hide hr
          have HAL5 := hide hal5
          have HB5 := hide hb5
          have HBL5 := hide hbl5
          clear hr hal5 hb5 hbl5
          go_upto_region 22 with fail
          rw [hK]
          obtain ⟨a', b', e', s', hput, hinv', hno, hyes⟩ := whole_next (fun i => padV_len n (vals i).data.toList) HINV.out (k := K) (i := I) (by omega) (by have := HNP.out; omega)
          have hgd := (HGL.out.below HB5.out).below ((Below.refl w5.heap.size w5).drew)
          have hsok := HINV.out.ok
          have hFok : FrOk ((fW K).of (padV n (vals K).data.toList) (nParts n) I) := by
            have hNPle := nParts_le n
            refine ⟨⟨by show (0 : Int) ≤ I; omega, by show (I : Int) ≤ 255; omega⟩, ⟨by show (0 : Int) ≤ nParts n; omega, by show nParts n ≤ 255; omega⟩, ?_⟩
            show (ofL (chunk _ I)).size ≤ _
            rw [ofL_size, chunk_len]
            omega
          have HPUT := hide (put_t hgd hsok _ hFok hput)
          have HINV' := hide hinv'
          have HNO := hide hno
          have HYES := hide hyes
          clear hput hinv' hno hyes hgd hsok hFok c0
          have q0 : ¬ NP = 0 := by omega
          have q1 : y.tmod (NP : Int) = I := by rw [Int.tmod_eq_emod_of_nonneg y0]; exact hI
          have q2 : IntKind.i64.wrap (I : Int) = I := IntWalk.i64_in _ (by omega)
          have q3 : (0 : Int) ≤ I := by omega
          have q7 : IntKind.i64.wrap y = y := IntWalk.i64_in _ (by omega)
          have q4 : (I : Int) < NP := by omega
          have q5 : (0 : Int) ≤ K := by omega
          have q6 : (K : Int) < k := by omega
          have HRD := hide (show w5.drew.rangeAt p.1 (I * 19) (frV ((fW K).of (padV n (vals K).data.toList) (nParts n) I)).toList from HR.out)
          refine wp_region_held_drew (S := fun w' => w'.cell? ⟨wr.heap.size, 1, none⟩ = some (.int .u8 y) ∧ w'.cell? ⟨gx, K, none⟩ = some (.slice (some ⟨p.1, 0, none⟩) NP p.2) ∧ w'.rangeAt p.1 (I * 19) (frV ((fW K).of (padV n (vals K).data.toList) (nParts n) I)).toList) (by kernel_rfl) ⟨c1, cK, HRD.out⟩ (fun hHeld => ?_)
          refine wpAnyH_take (i := 0) (oi := { dst := some 90, op := Go.Op.move (Go.Operand.tmp 11), type := 55, pos := "law.go:117", after := #[], guard := none }) (v := ?v0) rfl (by kernel_rfl) (by kernel_rfl) (by kernel_rfl) (fun _ _ _ h => h) (Or.inl ⟨by rfl, ?y0⟩) (by assumption) ?r0
          case y0 => (intro w' hSw; (try dsimp only at hSw); go_simp; try (with_reducible rfl))
          simp only [Act.put, List.setIfInBounds_toArray, List.set_cons_zero, List.set_cons_succ]
          refine wpAnyH_take (i := 1) (oi := { dst := some 91, op := Go.Op.move (Go.Operand.tmp 8), type := 62, pos := "law.go:117", after := #[], guard := none }) (v := ?v1) rfl (by kernel_rfl) (by kernel_rfl) (by kernel_rfl) (fun _ _ _ h => h) (Or.inl ⟨by rfl, ?y1⟩) (by assumption) ?r1
          case y1 => (intro w' hSw; (try dsimp only at hSw); go_simp; try (with_reducible rfl))
          simp only [Act.put, List.setIfInBounds_toArray, List.set_cons_zero, List.set_cons_succ]
          refine wpAnyH_take (i := 2) (oi := { dst := some 92, op := Go.Op.move (Go.Operand.tmp 15), type := 3, pos := "law.go:117", after := #[], guard := none }) (v := ?v2) rfl (by kernel_rfl) (by kernel_rfl) (by kernel_rfl) (fun _ _ _ h => h) (Or.inl ⟨by rfl, ?y2⟩) (by assumption) ?r2
          case y2 => (intro w' hSw; (try dsimp only at hSw); go_simp; try (with_reducible rfl))
          simp only [Act.put, List.setIfInBounds_toArray, List.set_cons_zero, List.set_cons_succ]
          refine wpAnyH_take (i := 3) (oi := { dst := some 93, op := Go.Op.indexAddr 62 (Go.Operand.tmp 91) (Go.Operand.tmp 92), type := 0, pos := "law.go:117", after := #[{ on := 1, ground := Go.Ground.data }, { on := 2, ground := Go.Ground.data }], guard := none }) (v := ?v3) rfl (by kernel_rfl) (by kernel_rfl) (by kernel_rfl) (fun _ _ _ h => h) (Or.inl ⟨by rfl, ?y3⟩) (by assumption) ?r3
          case y3 => (intro w' hSw; (try dsimp only at hSw); go_simp; try (with_reducible rfl))
          simp only [Act.put, List.setIfInBounds_toArray, List.set_cons_zero, List.set_cons_succ]
          refine wpAnyH_take (i := 4) (oi := { dst := some 94, op := Go.Op.load 53 (Go.Operand.tmp 93), type := 53, pos := "law.go:117", after := #[{ on := 3, ground := Go.Ground.data }], guard := none }) (v := ?v4) rfl (by kernel_rfl) (by kernel_rfl) (by kernel_rfl) (fun _ _ _ h => h) (Or.inl ⟨by rfl, ?y4⟩) (by assumption) ?r4
          case y4 => (intro w' hSw; (try dsimp only at hSw); go_simp; try (with_reducible rfl))
          simp only [Act.put, List.setIfInBounds_toArray, List.set_cons_zero, List.set_cons_succ]
          refine wpAnyH_take (i := 5) (oi := { dst := some 95, op := Go.Op.fieldAddr 64 (Go.Operand.tmp 14) 1, type := 0, pos := "law.go:117", after := #[], guard := none }) (v := ?v5) rfl (by kernel_rfl) (by kernel_rfl) (by kernel_rfl) (fun _ _ _ h => h) (Or.inl ⟨by rfl, ?y5⟩) (by assumption) ?r5
          case y5 => (intro w' hSw; (try dsimp only at hSw); go_simp; try (with_reducible rfl))
          simp only [Act.put, List.setIfInBounds_toArray, List.set_cons_zero, List.set_cons_succ]
          refine wpAnyH_take (i := 6) (oi := { dst := some 96, op := Go.Op.load 5 (Go.Operand.tmp 95), type := 5, pos := "law.go:117", after := #[{ on := 5, ground := Go.Ground.data }], guard := none }) (v := ?v6) rfl (by kernel_rfl) (by kernel_rfl) (by kernel_rfl) (fun _ _ _ h => h) (Or.inl ⟨by rfl, ?y6⟩) (by assumption) ?r6
          case y6 => (intro w' hSw; (try dsimp only at hSw); go_simp; try (with_reducible rfl))
          simp only [Act.put, List.setIfInBounds_toArray, List.set_cons_zero, List.set_cons_succ]
          refine wpAnyH_take (i := 7) (oi := { dst := some 97, op := Go.Op.convert 5 3 (Go.Operand.tmp 96), type := 3, pos := "law.go:117", after := #[{ on := 6, ground := Go.Ground.data }], guard := none }) (v := ?v7) rfl (by kernel_rfl) (by kernel_rfl) (by kernel_rfl) (fun _ _ _ h => h) (Or.inl ⟨by rfl, ?y7⟩) (by assumption) ?r7
          case y7 => (intro w' hSw; (try dsimp only at hSw); go_simp; try (with_reducible rfl))
          simp only [Act.put, List.setIfInBounds_toArray, List.set_cons_zero, List.set_cons_succ]
          refine wpAnyH_take (i := 8) (oi := { dst := some 98, op := Go.Op.move (Go.Operand.tmp 8), type := 62, pos := "law.go:117", after := #[], guard := none }) (v := ?v8) rfl (by kernel_rfl) (by kernel_rfl) (by kernel_rfl) (fun _ _ _ h => h) (Or.inl ⟨by rfl, ?y8⟩) (by assumption) ?r8
          case y8 => (intro w' hSw; (try dsimp only at hSw); go_simp; try (with_reducible rfl))
          simp only [Act.put, List.setIfInBounds_toArray, List.set_cons_zero, List.set_cons_succ]
          refine wpAnyH_take (i := 9) (oi := { dst := some 99, op := Go.Op.move (Go.Operand.tmp 15), type := 3, pos := "law.go:117", after := #[], guard := none }) (v := ?v9) rfl (by kernel_rfl) (by kernel_rfl) (by kernel_rfl) (fun _ _ _ h => h) (Or.inl ⟨by rfl, ?y9⟩) (by assumption) ?r9
          case y9 => (intro w' hSw; (try dsimp only at hSw); go_simp; try (with_reducible rfl))
          simp only [Act.put, List.setIfInBounds_toArray, List.set_cons_zero, List.set_cons_succ]
          refine wpAnyH_take (i := 10) (oi := { dst := some 100, op := Go.Op.indexAddr 62 (Go.Operand.tmp 98) (Go.Operand.tmp 99), type := 0, pos := "law.go:117", after := #[{ on := 8, ground := Go.Ground.data }, { on := 9, ground := Go.Ground.data }], guard := none }) (v := ?v10) rfl (by kernel_rfl) (by kernel_rfl) (by kernel_rfl) (fun _ _ _ h => h) (Or.inl ⟨by rfl, ?y10⟩) (by assumption) ?r10
          case y10 => (intro w' hSw; (try dsimp only at hSw); go_simp; try (with_reducible rfl))
          simp only [Act.put, List.setIfInBounds_toArray, List.set_cons_zero, List.set_cons_succ]
          refine wpAnyH_take (i := 11) (oi := { dst := some 101, op := Go.Op.load 53 (Go.Operand.tmp 100), type := 53, pos := "law.go:117", after := #[{ on := 10, ground := Go.Ground.data }], guard := none }) (v := ?v11) rfl (by kernel_rfl) (by kernel_rfl) (by kernel_rfl) (fun _ _ _ h => h) (Or.inl ⟨by rfl, ?y11⟩) (by assumption) ?r11
          case y11 => (intro w' hSw; (try dsimp only at hSw); go_simp; try (with_reducible rfl))
          simp only [Act.put, List.setIfInBounds_toArray, List.set_cons_zero, List.set_cons_succ]
          refine wpAnyH_take (i := 12) (oi := { dst := some 102, op := Go.Op.call { callee := Go.Callee.builtin Go.Builtin.len, args := #[Go.Operand.tmp 101], argTypes := #[53] }, type := 3, pos := "law.go:117", after := #[{ on := 11, ground := Go.Ground.data }], guard := none }) (v := ?v12) rfl (by kernel_rfl) (by kernel_rfl) (by kernel_rfl) (fun _ _ _ h => h) (Or.inl ⟨by rfl, ?y12⟩) (by assumption) ?r12
          case y12 => (intro w' hSw; (try dsimp only at hSw); go_simp; try (with_reducible rfl))
          simp only [Act.put, List.setIfInBounds_toArray, List.set_cons_zero, List.set_cons_succ]
          refine wpAnyH_take (i := 13) (oi := { dst := some 103, op := Go.Op.binOp Go.BinOp.rem 3 (Go.Operand.tmp 97) (Go.Operand.tmp 102) 3, type := 3, pos := "law.go:117", after := #[{ on := 7, ground := Go.Ground.data }, { on := 12, ground := Go.Ground.data }], guard := none }) (v := ?v13) rfl (by kernel_rfl) (by kernel_rfl) (by kernel_rfl) (fun _ _ _ h => h) (Or.inl ⟨by rfl, ?y13⟩) (by assumption) ?r13
          case y13 => (intro w' hSw; (try dsimp only at hSw); go_simp; try (with_reducible rfl))
          simp only [Act.put, List.setIfInBounds_toArray, List.set_cons_zero, List.set_cons_succ]
          refine wpAnyH_take (i := 14) (oi := { dst := some 104, op := Go.Op.indexAddr 53 (Go.Operand.tmp 94) (Go.Operand.tmp 103), type := 0, pos := "law.go:117", after := #[{ on := 4, ground := Go.Ground.data }, { on := 13, ground := Go.Ground.data }], guard := none }) (v := ?v14) rfl (by kernel_rfl) (by kernel_rfl) (by kernel_rfl) (fun _ _ _ h => h) (Or.inl ⟨by rfl, ?y14⟩) (by assumption) ?r14
          case y14 => (intro w' hSw; (try dsimp only at hSw); go_simp; try (with_reducible rfl))
          simp only [Act.put, List.setIfInBounds_toArray, List.set_cons_zero, List.set_cons_succ]
          refine' wpAnyH_take (i := 15) (oi := { dst := some 105, op := Go.Op.load 52 (Go.Operand.tmp 104), type := 52, pos := "law.go:117", after := #[{ on := 14, ground := Go.Ground.data }], guard := none }) rfl (by kernel_rfl) (by kernel_rfl) (by kernel_rfl) (fun _ _ _ h => h) (yieldsIf_load_mid (by rfl) 52 (.tmp 104) rfl p.1 (I * 19) rfl _ _ (fun w' hS => hS.2.2) Try.underlying52 rfl (by kernel_rfl)) (by assumption) ?_
          simp only [Act.put, List.setIfInBounds_toArray, List.set_cons_zero, List.set_cons_succ]
          refine wpAnyH_ready (rs := [16]) (by kernel_rfl) (by simp) ?_
          refine AllReadyH.cons (o := { dst := some 106, op := Go.Op.call { callee := Go.Callee.value (Go.Operand.func 27), args := #[Go.Operand.tmp 90, Go.Operand.tmp 105], argTypes := #[55, 52] }, type := 57, pos := "law.go:117", after := #[{ on := 0, ground := Go.Ground.data }, { on := 15, ground := Go.Ground.data }], guard := none }) rfl (fun K' hK' => ?_) AllReadyH.nil
          go_simp
          refine HPUT.out.mono ?_
          rintro e6 w6 ⟨rfl, hk6, ho6⟩
          have hlp := HALL.out.fr K p hp |>.lt p.1 rfl
          have hS6 : w6.cell? ⟨wr.heap.size, 1, none⟩ = some (.int .u8 y) ∧ w6.cell? ⟨gx, K, none⟩ = some (.slice (some ⟨p.1, 0, none⟩) NP p.2) ∧ w6.rangeAt p.1 (I * 19) (frV ((fW K).of (padV n (vals K).data.toList) (nParts n) I)).toList :=
            ⟨ho6.cell (w := w5.drew) c1 (by show wr.heap.size ≠ gg; omega) (by show wr.heap.size ≠ gh; omega), ho6.cell (w := w5.drew) cK (by show gx ≠ gg; omega) (by show gx ≠ gh; omega), fun j u hj => ho6.cell (HRD.out j u hj) (by show p.1 ≠ gg; omega) (by show p.1 ≠ gh; omega)⟩
          refine hK'.out _ _ hS6 (fun hHeld2 => ?_)
          clear hK' hHeld
          refine wpAnyH_take (i := 17) (oi := { dst := some 89, op := Go.Op.move (Go.Operand.tmp 106), type := 57, pos := "law.go:117", after := #[{ on := 16, ground := Go.Ground.data }], guard := none }) (v := ?v17) rfl (by kernel_rfl) (by kernel_rfl) (by kernel_rfl) (fun _ _ _ h => h) (Or.inl ⟨by rfl, ?y17⟩) (by assumption) ?r17
          case y17 => (intro w' hSw; (try dsimp only at hSw); go_simp; try (with_reducible rfl))
          simp only [Act.put, List.setIfInBounds_toArray, List.set_cons_zero, List.set_cons_succ]
          refine wpAnyH_take (i := 18) (oi := { dst := some 107, op := Go.Op.extract (Go.Operand.tmp 89) 0, type := 9, pos := "law.go:117", after := #[{ on := 17, ground := Go.Ground.data }], guard := none }) (v := ?v18) rfl (by kernel_rfl) (by kernel_rfl) (by kernel_rfl) (fun _ _ _ h => h) (Or.inl ⟨by rfl, ?y18⟩) (by assumption) ?r18
          case y18 => (intro w' hSw; (try dsimp only at hSw); go_simp; try (with_reducible rfl))
          simp only [Act.put, List.setIfInBounds_toArray, List.set_cons_zero, List.set_cons_succ]
          refine wpAnyH_take (i := 19) (oi := { dst := some 108, op := Go.Op.extract (Go.Operand.tmp 89) 1, type := 4, pos := "law.go:117", after := #[{ on := 17, ground := Go.Ground.data }, { on := 21, ground := Go.Ground.gcOnly Go.Departure.lateStores }], guard := none }) (v := ?v19) rfl (by kernel_rfl) (by kernel_rfl) (by kernel_rfl) (fun _ _ _ h => h) (Or.inl ⟨by rfl, ?y19⟩) (by assumption) ?r19
          case y19 => (intro w' hSw; (try dsimp only at hSw); go_simp; try (with_reducible rfl))
          simp only [Act.put, List.setIfInBounds_toArray, List.set_cons_zero, List.set_cons_succ]
          refine wpAnyH_take (i := 20) (oi := { dst := some 109, op := Go.Op.extract (Go.Operand.tmp 89) 2, type := 26, pos := "law.go:117", after := #[{ on := 17, ground := Go.Ground.data }, { on := 22, ground := Go.Ground.gcOnly Go.Departure.lateStores }], guard := none }) (v := ?v20) rfl (by kernel_rfl) (by kernel_rfl) (by kernel_rfl) (fun _ _ _ h => h) (Or.inl ⟨by rfl, ?y20⟩) (by assumption) ?r20
          case y20 => (intro w' hSw; (try dsimp only at hSw); go_simp; try (with_reducible rfl))
          simp only [Act.put, List.setIfInBounds_toArray, List.set_cons_zero, List.set_cons_succ]
          refine wpAnyH_take (i := 21) (oi := { dst := some 16, op := Go.Op.assign (Go.Operand.tmp 107), type := 9, pos := "law.go:117", after := #[{ on := 18, ground := Go.Ground.data }, { on := 16, ground := Go.Ground.chain }, { on := 0, ground := Go.Ground.phase }, { on := 1, ground := Go.Ground.phase }, { on := 2, ground := Go.Ground.phase }, { on := 3, ground := Go.Ground.phase }, { on := 4, ground := Go.Ground.phase }, { on := 5, ground := Go.Ground.phase }, { on := 6, ground := Go.Ground.phase }, { on := 7, ground := Go.Ground.phase }, { on := 8, ground := Go.Ground.phase }, { on := 9, ground := Go.Ground.phase }, { on := 10, ground := Go.Ground.phase }, { on := 11, ground := Go.Ground.phase }, { on := 12, ground := Go.Ground.phase }, { on := 13, ground := Go.Ground.phase }, { on := 14, ground := Go.Ground.phase }, { on := 15, ground := Go.Ground.phase }, { on := 16, ground := Go.Ground.phase }, { on := 17, ground := Go.Ground.phase }, { on := 18, ground := Go.Ground.phase }, { on := 19, ground := Go.Ground.textOnly Go.Departure.lateStores }, { on := 20, ground := Go.Ground.textOnly Go.Departure.lateStores }], guard := none }) (v := ?v21) rfl (by kernel_rfl) (by kernel_rfl) (by kernel_rfl) (fun _ _ _ h => h) (Or.inl ⟨by rfl, ?y21⟩) (by assumption) ?r21
          case y21 => (intro w' hSw; (try dsimp only at hSw); go_simp; try (with_reducible rfl))
          simp only [Act.put, List.setIfInBounds_toArray, List.set_cons_zero, List.set_cons_succ]
          refine wpAnyH_take (i := 22) (oi := { dst := some 17, op := Go.Op.assign (Go.Operand.tmp 108), type := 4, pos := "law.go:117", after := #[{ on := 19, ground := Go.Ground.data }, { on := 21, ground := Go.Ground.chain }, { on := 0, ground := Go.Ground.phase }, { on := 1, ground := Go.Ground.phase }, { on := 2, ground := Go.Ground.phase }, { on := 3, ground := Go.Ground.phase }, { on := 4, ground := Go.Ground.phase }, { on := 5, ground := Go.Ground.phase }, { on := 6, ground := Go.Ground.phase }, { on := 7, ground := Go.Ground.phase }, { on := 8, ground := Go.Ground.phase }, { on := 9, ground := Go.Ground.phase }, { on := 10, ground := Go.Ground.phase }, { on := 11, ground := Go.Ground.phase }, { on := 12, ground := Go.Ground.phase }, { on := 13, ground := Go.Ground.phase }, { on := 14, ground := Go.Ground.phase }, { on := 15, ground := Go.Ground.phase }, { on := 16, ground := Go.Ground.phase }, { on := 17, ground := Go.Ground.phase }, { on := 18, ground := Go.Ground.phase }, { on := 19, ground := Go.Ground.phase }, { on := 20, ground := Go.Ground.textOnly Go.Departure.lateStores }, { on := 21, ground := Go.Ground.phase }], guard := none }) (v := ?v22) rfl (by kernel_rfl) (by kernel_rfl) (by kernel_rfl) (fun _ _ _ h => h) (Or.inl ⟨by rfl, ?y22⟩) (by assumption) ?r22
          case y22 => (intro w' hSw; (try dsimp only at hSw); go_simp; try (with_reducible rfl))
          simp only [Act.put, List.setIfInBounds_toArray, List.set_cons_zero, List.set_cons_succ]
          refine wpAnyH_take (i := 23) (oi := { dst := some 18, op := Go.Op.assign (Go.Operand.tmp 109), type := 26, pos := "law.go:117", after := #[{ on := 20, ground := Go.Ground.data }, { on := 22, ground := Go.Ground.chain }, { on := 0, ground := Go.Ground.phase }, { on := 1, ground := Go.Ground.phase }, { on := 2, ground := Go.Ground.phase }, { on := 3, ground := Go.Ground.phase }, { on := 4, ground := Go.Ground.phase }, { on := 5, ground := Go.Ground.phase }, { on := 6, ground := Go.Ground.phase }, { on := 7, ground := Go.Ground.phase }, { on := 8, ground := Go.Ground.phase }, { on := 9, ground := Go.Ground.phase }, { on := 10, ground := Go.Ground.phase }, { on := 11, ground := Go.Ground.phase }, { on := 12, ground := Go.Ground.phase }, { on := 13, ground := Go.Ground.phase }, { on := 14, ground := Go.Ground.phase }, { on := 15, ground := Go.Ground.phase }, { on := 16, ground := Go.Ground.phase }, { on := 17, ground := Go.Ground.phase }, { on := 18, ground := Go.Ground.phase }, { on := 19, ground := Go.Ground.phase }, { on := 20, ground := Go.Ground.phase }, { on := 21, ground := Go.Ground.phase }, { on := 22, ground := Go.Ground.phase }], guard := none }) (v := ?v23) rfl (by kernel_rfl) (by kernel_rfl) (by kernel_rfl) (fun _ _ _ h => h) (Or.inl ⟨by rfl, ?y23⟩) (by assumption) ?r23
          case y23 => (intro w' hSw; (try dsimp only at hSw); go_simp; try (with_reducible rfl))
          simp only [Act.put, List.setIfInBounds_toArray, List.set_cons_zero, List.set_cons_succ]
          refine wpAnyH_done (by kernel_rfl) ?_ _
          have ho5 : Only gg gh w5 w6 := ⟨ho6.os, ho6.tape, ho6.output, ho6.size, ho6.block⟩
          have hbl6 := Only.below HBL5.out ho5 hgg hgh (by have := HBL5.out.size; omega)
          have ho7 : Only gg gh wg w6 := HO.out.trans (⟨HB5.out.os, HB5.out.tape, HB5.out.output, HB5.out.size, fun k h _ _ => HB5.out.block k h⟩ : Only gg gh wr w5) |>.trans ho5
          have HBL6 := hide hbl6
          have HO7 := hide ho7
          have HK6 := hide hk6
          have hs6 := ho5.size
          have hs5 := HB5.out.size
          clear hS6 hHeld2 ho6 ho5 hbl6 ho7 hk6 HPUT HRD
          cases b'
          · obtain ⟨rfl, he⟩ := HNO.out rfl
            have hinv'' : WInv n (fun i => padV n (vals i).data.toList) s' last := by simpa using HINV'.out
            have HINV2 := hide hinv''
            clear hinv''
            rcases he with rfl | rfl | rfl
            · go_wp2_with fail
              go_roundw
              case rel => exact ⟨j + 1, s', last, rfl, by go_num, by omega, HO7.out, HK6.out, HINV2.out⟩
              case measure => simp [intOf]; omega
            · go_wp2_with fail
              go_roundw
              case rel => exact ⟨j + 1, s', last, rfl, by go_num, by omega, HO7.out, HK6.out, HINV2.out⟩
              case measure => simp [intOf]; omega
            · go_wp2_with fail
              go_roundw
              case rel => exact ⟨j + 1, s', last, rfl, by go_num, by omega, HO7.out, HK6.out, HINV2.out⟩
              case measure => simp [intOf]; omega
          · obtain ⟨rfl, hlK, rfl, his, hvi, hvs⟩ := HYES.out rfl
            have hinv'' : WInv n (fun i => padV n (vals i).data.toList) s' K := by simpa using HINV'.out
            have HINV2 := hide hinv''
            have hb06 := Only.below HBG.out HO7.out (by omega) (by omega) (by have := HBG.out.size; omega)
            obtain ⟨a2, rfl, hab2, hac2⟩ := (HS.out.below hb06) K (by omega)
            have hmk := make_u8 41 5 Try.underlying41 info_u8 n (by omega)
            have HMC := hide (fun ty => made_copy n (by omega) (vals K) w6 ty)
            have hac3 : (w6.alloc (.cells (madeCells #[.int .u8 0] n) 5)).cell? (a2.add K) = some (.string (vals K)) := by
              rw [World.cell?_of_block (w := w6) (Below.heap_alloc w6 _ _ (by rw [block_add]; exact hab2)), hac2]
            clear hinv'' hb06 hac2
            go_upto_region 28 with (refine wpList_copy_ex rfl (.tmp 128) (.tmp 132) 41 9 rfl (.slice (some ⟨w6.heap.size, 0, none⟩) n n) (.string (vals K)) rfl rfl (R := fun w' => Below w6.heap.size w6 w' ∧ w6.heap.size < w'.heap.size ∧ ∀ W' : World, W'.heap[w6.heap.size]? = w'.heap[w6.heap.size]? → (convert 41 9 (.slice (some ⟨w6.heap.size, 0, none⟩) n n)).run Try.prog W' = .ok (.string (ofL (padV n (vals K).data.toList))) W') (HMC.out _) ?_; rintro w7 ⟨hb7, hlt7, hconv⟩)
            have hk7 := HK6.out.below hb7
            have hat := at_yes hk7 his
            rw [hvi, hvs] at hat
            have HAT := hide hat
            have HB7 := hide hb7
            clear hat hb7 hk7 hac3 hmk
            go_upto_region 29 with (go_at_call 28; refine HAT.out.mono ?_; rintro e8 w8 ⟨rfl, hb8⟩)
            obtain ⟨w9, hw9⟩ : ∃ w9, w8.alloc (.cells #[.int .u16 ((K : Int) / 3), .int .u32 K] 50) = w9 := ⟨_, rfl⟩
            have hb9 : Below w8.heap.size w8 w9 := by rw [← hw9]; exact (Below.refl _ _).alloc (Nat.le_refl _) _
            have v0 : w9.cell? ⟨w8.heap.size, 0, none⟩ = some (.int .u16 ((K : Int) / 3)) := by rw [← hw9]; exact blk_cell (heap_alloc_new w8 _) 0
            have v1 : w9.cell? ⟨w8.heap.size, 1, none⟩ = some (.int .u32 K) := by rw [← hw9]; exact blk_cell (heap_alloc_new w8 _) 1
            rw [hw9]
            have hs7 := HB7.out.size
            have hs8 := hb8.size
            have hs9 := hb9.size
            have hcv : ∀ m, (convert 41 9 (.slice (some ⟨w6.heap.size, 0, none⟩) n n)).run Try.prog (w9.drewN m) = .ok (.string (ofL (padV n (vals K).data.toList))) (w9.drewN m) := fun m => hconv _ ((hb9.block w6.heap.size (by omega)).trans (hb8.block w6.heap.size hlt7))
            have hb69 := HB7.out.trans ((hb8.mono hs7).trans (hb9.mono (by omega)))
            have hal9 := HALL.out.below (HBL6.out.trans (hb69.mono (by have := HBL6.out.size; omega)))
            have cK : w9.cell? ⟨gx, K, none⟩ = some (.slice (some ⟨p.1, 0, none⟩) NP p.2) := by
              have := hal9.cell hps K p hp
              rw [HNP.out] at this
              exact this
            have hr0 := hal9.load K 0 p hp (by rw [HNP.out]; omega)
            have r0 : w9.cell? ⟨p.1, 14, none⟩ = some (.int .u16 ((K : Int) / 3)) := by
              have := hr0 14 _ rfl
              rw [show 0 * 19 + 14 = 14 from rfl] at this
              rw [this]
              exact congrArg (fun z => some (Value.int .u16 z)) (show ((K / 3 : Nat) : Int) = (K : Int) / 3 by omega)
            have r1 : w9.cell? ⟨p.1, 15, none⟩ = some (.int .u32 K) := hr0 15 _ rfl
            have hdl : decide ((K : Int) ≤ last) = false := by simp; omega
            have HB69 := hide hb69
            clear hconv hw9 hb9 hb8 hb69 hal9 hr0
            refine wp_region_quiet_lit (by kernel_rfl) (by kernel_rfl) ?_
            repeat (first
              | ((refine wpQuiet_neq_w (by rfl) 50 _ _ _ rfl #[.int .u16 ((K : Int) / 3), .int .u32 K] #[.int .u16 ((K : Int) / 3), .int .u32 K] rfl rfl (by kernel_rfl) true (fun w => by have := eqV 9998 w ((K : Int) / 3) ((K : Int) / 3) K K; simpa using this) ?_); simp only [Act.put, List.setIfInBounds_toArray, List.set_cons_zero, List.set_cons_succ])
              | go_big_quiet_step (fail))
            refine wpQuiet_nil ?_
            intro _ hw'
            obtain ⟨nq, hw''⟩ := hw'
            subst hw''
            have hbq9 := HB69.out.trans (draws_below w6.heap.size w9 nq)
            have HK9 := hide (HK6.out.below hbq9)
            have HO9 := hide (HO7.out.trans (⟨hbq9.os, hbq9.tape, hbq9.output, hbq9.size, fun k h _ _ => hbq9.block k h⟩ : Only gg gh w6 (w9.drewN nq)))
            clear hbq9 hcv v0 v1 cK r0 r1
            go_wp2_with fail
            go_roundw
            case rel => exact ⟨j + 1, s', K, rfl, by go_num, by omega, HO9.out, HK9.out, HINV2.out⟩
            case measure => simp [intOf]; omega
        · have hbq := HBQ.out
          go_wp2_with fail
          go_ret
          exact ⟨rfl, hbq⟩
end Go.Proofs.Ytoekemceminciaa
