/- edenref11.Fold, the walk. Condition: the automaton reads from memory. edenref11.classes, the walk. Condition: the automaton reads from memory. -/
import Derived.Test.YthilnpfpllplaaaGreatDoorS3
import Derived.Test.YthilnpfpllplaaaGreatDoorS21
namespace Go.Proofs.YthilnpfpllplaaaGreatDoor
open Go.RowKit Go.WideMaps Go.Maps BagP RuleP SubP

/-- What is asked of edenref11.classes. -/
def ClassesOk : Prop := ∀ (w : World) (k n nc : Nat) (NA : Option Addr) (L : List (List Int)), L.length = n → IsAuto k L → ListAt w NA n L → 0 < k → k ≤ 4 → n ≤ 4096 →
    Calls Tryz.prog 85 #[autoV (k : Int) (.slice NA n nc)] w fun e w' => ∃ (gg : Nat) (G : List Nat), e = .returned (.slice (some ⟨gg, 0, none⟩) n n) ∧ w'.ownsRow w.heap.size 3 1 (.slice (some ⟨gg, 0, none⟩) n n) n ((ints G).map (Value.int .i64)) ∧ G.length = n ∧ (∀ i, i < n → G.getD i 0 < n) ∧ Parted k L G ∧ Below w.heap.size w w'
theorem rowF_pre_aux {e : Nat → Nat → Bool} : ∀ (r : List Int) (S : List Nat) (a : List Int), S <+: (r.foldl (stepS e) (S, a)).1
  | [], S, a => List.prefix_refl _
  | t :: r, S, a => by
    rw [List.foldl_cons]
    unfold stepS
    dsimp only
    split
    · exact rowF_pre_aux r S _
    · split
      · exact rowF_pre_aux r S _
      · exact (List.prefix_append S [t.toNat]).trans (rowF_pre_aux r _ _)
theorem rowF_pre {e : Nat → Nat → Bool} {S S' : List Nat} {r row : List Int} (h : rowF e S r = (S', row)) : S <+: S' := by
  have := rowF_pre_aux (e := e) r S []
  unfold rowF at h
  rw [h] at this
  exact this

set_option maxRecDepth 100000 in
set_option maxHeartbeats 1500000 in
theorem fold_c (classes_c : ClassesOk) (w : World) (k n nc : Nat) (NA : Option Addr) (L : List (List Int)) (hn : L.length = n) (hA : IsAuto k L) (hL : ListAt w NA n L) (hk0 : 0 < k) (hk4 : k ≤ 4) (hn4 : n ≤ 4096) :
    Calls Tryz.prog 49 #[autoV (k : Int) (.slice NA n nc)] w fun e w' => ∃ (nv : Value) (nr : List Value), e = .returned (autoV (k : Int) nv) ∧ RowsAt w' w.heap.size nv nr (leastA k L) (fun _ => False) ∧ Below w.heap.size w w' := by
  have hn0 : 0 < n := by rw [← hn]; exact hA.pos
  obtain ⟨adn, _, _, _, rfl, _⟩ := hL.at_ hn0
  have hmm := @run_makeMap Tryz.prog
  have hmk := run_make_row' (P := Tryz.prog) 22 3 (.int .i64 0) 8 tInts.und tInts.info rfl .i64 .i64 k (by omega) (by omega)
  obtain ⟨W1, hW1⟩ : ∃ W1, w.alloc (.cells #[.int .i64 (k : Int), .slice (some adn) n nc] 50) = W1 := ⟨_, rfl⟩
  have hz1 : W1.heap.size = w.heap.size + 1 := by rw [← hW1]; simp
  have ha1 : AutoAt W1 w.heap.size (.int .i64 (k : Int)) (.slice (some adn) n nc) := by rw [← hW1]; exact heap_new _ _
  have hb1 := (Below.refl w.heap.size w).alloc (Nat.le_refl _) (.cells #[.int .i64 (k : Int), .slice (some adn) n nc] 50)
  rw [hW1] at hb1
  obtain ⟨W2, hW2⟩ : ∃ W2, W1.alloc (.cells #[.int .i64 0, .slice none 0 0] 50) = W2 := ⟨_, rfl⟩
  have hz2 : W2.heap.size = w.heap.size + 2 := by rw [← hW2]; simp [hz1]
  have hr2 : AutoAt W2 (w.heap.size + 1) (.int .i64 0) (.slice none 0 0) := by rw [← hW2, ← hz1]; exact heap_new _ _
  have hb12 : Below W1.heap.size W1 W2 := by rw [← hW2]; exact (Below.refl _ _).alloc (Nat.le_refl _) _
  have hb2 : Below w.heap.size w W2 := hb1.trans (hb12.mono hb1.size)
  have ha2 := ha1.below hb12 (by omega)
  have hPT := classes_c W2 k n nc (some adn) L hn hA (hL.keep hb2) hk0 hk4 hn4
  unfold autoV at hPT
  have HPT := Lib.hid hPT
  have HW12 := Lib.hid (⟨hW1, hW2⟩ : _ ∧ _)
  have HN := Lib.hid hn
  have HA := Lib.hid hA
  have HL := Lib.hid hL
  have HA2 := Lib.hid ha2
  have HR2 := Lib.hid hr2
  have HB2 := Lib.hid hb2
  have HZ2 := Lib.hid hz2
  clear hPT hW1 hW2 hz1 hz2 ha1 hb1 hb12 hb2 ha2 hr2 hn hA hL
  unfold autoV
  go_enter Tryz.func49, Tryz.ntmps49
  go_wp2_with fail
  rw [HW12.out.1, HW12.out.2]
  refine (HPT.out).mono ?_
  rintro e w3 ⟨gg, G, rfl, ho3, hGl, hGB, hPD, hb3⟩
  clear HPT HW12
  have hz2 := HZ2.out
  have hs3 := hb3.size
  have hb34 := (Below.refl w3.heap.size w3).alloc (Nat.le_refl _) (.map #[] 0)
  have hmp := World.ownsMap_made w3 Tryz.prog 3 (plainElem (H := Unit) Tryz.prog 3)
  have hC4 : LeC (w3.alloc (.map #[] 0)) ⟨w, k, n, nc, some adn, gg, w3.heap.size, w.heap.size + 2⟩ G [] [] [] (.slice none 0 0) (.slice none 0 0) [] (fun _ => False) := {
    old := HB2.out.trans ((hb3.trans (hb34.mono hs3)).mono HB2.out.size)
    auto := (HA2.out.below hb3 (by omega)).below hb34 (by omega)
    grp := own_below (own_base ho3 HB2.out.size) hb34
    map := ⟨_, hmp, relI_nil⟩
    fm := by show w.heap.size ≤ w3.heap.size; omega
    fb := by show w.heap.size + 1 < w.heap.size + 2; omega
    res := (HR2.out.below hb3 (by omega)).below hb34 (by omega)
    st := World.ownsRow_nil _ _ _ _
    nx := RowsAt.nil _ _ _
    ne := by simp [Value.ownBlock]
    nX := fun g hg => hg.elim }
  obtain ⟨M0, hM0, hrel0⟩ := hC4.map
  obtain ⟨q0, q1⟩ := int_at hC4.grp hn0
  have hkey0 := keyI_of (G.getD 0 0) (by have := hGB 0 hn0; omega)
  have hins : plainElem (H := Unit) Tryz.prog 3 (.int .i64 0) = some (.lit (.int .i64 0), []) := plainElem_int Tryz.underlying3 (WalkArith.wf_i64 (by omega))
  have HC4 := Lib.hid hC4
  have HREL0 := Lib.hid hrel0
  have HGL := Lib.hid hGl
  have HGB := Lib.hid hGB
  have HPD := Lib.hid hPD
  clear hC4 hrel0 hmp hb34 hs3 hz2 hb3 ho3 hGl hGB hPD HA2 HR2 HB2 HZ2
  dsimp only at hM0 q0 q1
  go_wp2_with (refine wpList_insert_own _ rfl _ _ _ 132 rfl 3 3 keyI Tryz.underlying132 _ _ 0 M0 rfl hM0 (by decide) _ _ _ rfl rfl hkey0 _ [] hins ?_; intro w6 hmap6 hg6; have hC6 := HC4.out.mapped hg6 hmap6 HREL0.out (by simp); obtain ⟨c0, c1, _, _⟩ := hC6.auto.facts; dsimp only [LeP.B] at c0 c1; have c2 := cell_later ((Below.refl w6.heap.size w6).alloc (Nat.le_refl _) (.cells #[.int .i64 0] 3)) c0)
  have hl6 := World.ownsRow_lit (base := w6.heap.size) (e := 3) (size := 1) w6 #[.int .i64 0] 1 (Nat.le_refl _) (by decide) rfl
  have hb6 : Below w6.heap.size w6 (w6.alloc (.cells #[.int .i64 0] 3)) := (Below.refl _ _).alloc (Nat.le_refl _) _
  have hC6' := hC6.pushed (t := 0) (sv' := .slice (some ⟨w6.heap.size, 0, none⟩) 1 1) (own_base (by simpa [ints] using hl6) hC6.old.size) (Keeps.of_pure hb6 _) (fun g hg => .inr (by simp [Value.ownBlock] at hg; omega)) (fun g hg => hg.elim)
  have hb7 : Below (w6.alloc (.cells #[.int .i64 0] 3)).heap.size (w6.alloc (.cells #[.int .i64 0] 3)) ((w6.alloc (.cells #[.int .i64 0] 3)).alloc (.cells #[.int .i64 (k : Int), .slice none 0 0] 50)) := (Below.refl _ _).alloc (Nat.le_refl _) _
  have ho7 := heap_new (w6.alloc (.cells #[.int .i64 0] 3)) (.cells #[.int .i64 (k : Int), .slice none 0 0] 50)
  have hs6 : w.heap.size + 1 < w6.heap.size + 1 := by
    have h1 := (Array.getElem?_eq_some_iff.1 hC6.auto).1
    dsimp only [LeP.B] at h1
    omega
  have hC7 := (hC6'.pure hb7).reob (ob' := w6.heap.size + 1) hs6
  rw [World.size_alloc] at ho7
  obtain ⟨W7, hW7⟩ : ∃ W7, (w6.alloc (.cells #[.int .i64 0] 3)).alloc (.cells #[.int .i64 (k : Int), .slice none 0 0] 50) = W7 := ⟨_, rfl⟩
  obtain ⟨ob, hob⟩ : ∃ ob, w6.heap.size + 1 = ob := ⟨_, rfl⟩
  obtain ⟨sb, hsb⟩ : ∃ sb, w6.heap.size = sb := ⟨_, rfl⟩
  obtain ⟨mb, hmb⟩ : ∃ mb, w3.heap.size = mb := ⟨_, rfl⟩
  rw [hW7, hob, hmb, hsb] at hC7
  rw [hW7, hob] at ho7
  rw [hW7, hob, hmb, hsb]
  have hO7 : AutoAt W7 ob (.int .i64 (k : Int)) (.slice none 0 0) := ho7
  have hC7 : LeC W7 ⟨w, k, n, nc, some adn, gg, mb, ob⟩ G [0] (keysG G [0]) [] (.slice (some ⟨sb, 0, none⟩) 1 1) (.slice none 0 0) [] (fun _ => False) := hC7
  have HC7 := Lib.hid hC7
  have HO7 := Lib.hid hO7
  have hre : ∀ t, t < L.length → eG G t t = true := fun t _ => by simp [eG]
  have HRE := Lib.hid hre
  clear hC7 hO7 ho7 hs6 hb7 hC6' hb6 hl6 hC6 c0 c1 c2 hmap6 hg6 hM0 q0 q1 hkey0 hins HC4 HREL0 hob hsb hmb hW7 hre
  go_loopw [5, 7] (fun sv iv wl => ∃ (S : List Nat) (F : List (List Int)) (nv : Value) (nr : List Value), iv = .int .i64 (F.length : Int) ∧ Hid (foldTo (eG G) L F.length = (S, F)) ∧ Hid (FInv k L (eG G) S F) ∧ Hid (LeC wl ⟨w, k, n, nc, some adn, gg, mb, ob⟩ G S (keysG G S) F sv nv nr (fun _ => False)) ∧ Hid (AutoAt wl ob (.int .i64 (k : Int)) nv)) (fun _ iv _ => n - (intOf iv).toNat)
  case atStart => exact ⟨[0], [], .slice none 0 0, [], rfl, Lib.hid rfl, Lib.hid (FInv.start HA.out), HC7, HO7⟩
  case round =>
    obtain ⟨S, F, nv, nr, rfl, hfd, hfi, hC, hO⟩ := hrel
    have hSl := apart_nodup (k := k) HRE.out hfi.out.lt hfi.out.apart
    rw [HN.out] at hSl
    have hst := hC.out.st
    obtain ⟨SA, sc, rfl, _, _⟩ := own_slice hst
    obtain ⟨v8, rfl⟩ : ∃ v8, v8 = wr := ⟨_, rfl⟩
    obtain ⟨i, hi⟩ : ∃ i, F.length = i := ⟨_, rfl⟩
    have HI := Lib.hid hi
    rw [hi]
    clear hi
    have a0 : v8.cell? ⟨w.heap.size, 0, none⟩ = some (.int .i64 (k : Int)) := hC.out.auto.facts.1
    have a1 : v8.cell? ⟨w.heap.size, 1, none⟩ = some (.slice (some adn) n nc) := hC.out.auto.facts.2.1
    obtain ⟨o0, o1, p0, p1⟩ := hO.out.facts
    by_cases hlt : i < S.length
    · have hlt' : (i : Int) < (S.length : Int) := by omega
      obtain ⟨ads, x, rfl, hx, hcx⟩ := (Sl.of_own hst).int_ hlt
      obtain ⟨u, hu⟩ : ∃ u, S[i]? = some u := ⟨_, List.getElem?_eq_getElem hlt⟩
      have hxu : x = (u : Int) := by
        unfold ints at hx
        rw [List.getElem?_map, hu] at hx
        exact (Option.some.inj hx).symm
      subst hxu
      have hun : u < n := by rw [← HN.out]; exact hfi.out.lt u (List.mem_of_getElem? hu)
      obtain ⟨adn', l, P, pc, hadn, hl, hcl, _, hsl⟩ := (HL.out.keep (hC.out.old.mono (Nat.le_refl _))).at_ hun
      obtain rfl := Option.some.inj hadn
      have hlk : l.length = k := HA.out.len l (List.mem_of_getElem? hl)
      have HLU := Lib.hid (show L.getD (S.getD i 0) [] = l by
        rw [List.getD_eq_getElem?_getD (l := S), hu, Option.getD_some, List.getD_eq_getElem?_getD, hl]; rfl)
      have HLO := Lib.hid (HA.out.ok l (List.mem_of_getElem? hl))
      rw [hlk] at hcl hsl
      have HLK := Lib.hid hlk
      have hun' : (u : Int) < (n : Int) := by omega
      have hu0 : (0 : Int) ≤ (u : Int) := by omega
      have hi0 : (0 : Int) ≤ (i : Int) := by omega
      have HHL := Lib.hid hl
      have ho2 := make_ints v8 k (by simp only [maxLen]; omega)
      have hbz := (Below.refl v8.heap.size v8).alloc (Nat.le_refl _) (.cells (madeCells #[.int .i64 0] k) 3)
      obtain ⟨w2, hw2⟩ : ∃ w2, v8.alloc (.cells (madeCells #[.int .i64 0] k) 3) = w2 := ⟨_, rfl⟩
      obtain ⟨g, hg⟩ : ∃ g, v8.heap.size = g := ⟨_, rfl⟩
      rw [hw2] at ho2 hbz
      have HW22 := Lib.hid hw2
      have HGG := Lib.hid hg
      have HO22 := Lib.hid ho2
      have HBZ := Lib.hid hbz
      have HSU := Lib.hid hu
      have HSLL := Lib.hid hsl
      clear hu hl hlk hst hx hw2 hg ho2 hbz
      go_wp2_with fail
      rw [HW22.out, HGG.out]
      have hg := HGG.out
      have ho2 := HO22.out
      have hbz := HBZ.out
      rw [hg] at ho2
      have hgn : v8.heap.size ≤ g := Nat.le_of_eq hg
      have hBs : w.heap.size ≤ v8.heap.size := hC.out.old.size
      have HC2 := Lib.hid ((hC.out.mono (X' := fun b => b = g) (fun b hb => .inr (by rw [show b = g from hb]; exact hgn))).pure hbz)
      have HO2 := Lib.hid (hO.out.below hbz (Array.getElem?_eq_some_iff.1 hO.out).1)
      have HROW2 : Hid (w2.ownsRow w.heap.size 3 1 (.slice (some ⟨g, 0, none⟩) k k) k ((([] : List Int) ++ List.replicate (k - 0) 0).map (Value.int .i64))) := Lib.hid (by have h := own_base ho2 (show w.heap.size ≤ g by omega); simpa [ints] using h)
      have HSN := Lib.hid (show ∀ x ∈ S, x < n from fun x hx => by rw [← HN.out]; exact hfi.out.lt x hx)
      have HGW := Lib.hid (show w.heap.size ≤ g by omega)
      clear hC hO ho2 hbz hgn hcx hcl a0 a1 o0 o1 p0 p1 hBs hg hsl hmk HW22 HGG HO22 HBZ
      go_wp2_with fail
      go_loopw [5, 9] (fun sv' jv wl => ∃ (j : Nat) (S' : List Nat) (row : List Int), jv = .int .i64 (j : Int) ∧ j ≤ k ∧ Hid (rowF (eG G) S (l.take j) = (S', row)) ∧ Hid (S'.length ≤ S.length + j ∧ row.length = j ∧ ∀ x ∈ S', x < n) ∧ Hid (LeC wl ⟨w, k, n, nc, some adn, gg, mb, ob⟩ G S' (keysG G S') F sv' nv nr (fun b => b = g)) ∧ Hid (AutoAt wl ob (.int .i64 (k : Int)) nv) ∧ Hid (wl.ownsRow w.heap.size 3 1 (.slice (some ⟨g, 0, none⟩) k k) k ((row ++ List.replicate (k - j) 0).map (Value.int .i64)))) (fun _ jv _ => k - (intOf jv).toNat)
      case atStart => exact ⟨0, S, [], rfl, Nat.zero_le _, Lib.hid rfl, Lib.hid ⟨Nat.le_refl _, rfl, HSN.out⟩, HC2, HO2, HROW2⟩
      case round =>
        obtain ⟨j, S', row, rfl, hjk, hrw, hfs, hC, hO, hrow⟩ := hrel
        obtain ⟨hSj, hrl, hSn⟩ := hfs.out
        clear HC2 HO2 HROW2
        have b0 : wr.cell? ⟨w.heap.size, 0, none⟩ = some (.int .i64 (k : Int)) := hC.out.auto.facts.1
        by_cases hjl : j < k
        · have hjl' : (j : Int) < (k : Int) := by omega
          have hj0 : (0 : Int) ≤ (j : Int) := by omega
          have hll : j < l.length := by rw [HLK.out]; exact hjl
          have b1 : wr.cell? ⟨w.heap.size, 1, none⟩ = some (.slice (some adn) n nc) := hC.out.auto.facts.2.1
          have hst := hC.out.st
          obtain ⟨SA', sc', rfl, _, _⟩ := own_slice hst
          have hpre : S <+: S' := rowF_pre hrw.out
          have hiS' : i < S'.length := Nat.lt_of_lt_of_le hlt hpre.length_le
          have hiS'' : (i : Int) < (S'.length : Int) := by omega
          obtain ⟨ads', x', rfl, hx', hcs⟩ := (Sl.of_own hst).int_ hiS'
          have hxu' : x' = (u : Int) := by
            unfold ints at hx'
            rw [List.getElem?_map, pre_get hpre HSU.out] at hx'
            exact (Option.some.inj hx').symm
          subst hxu'
          obtain ⟨adn', l', P', pc', hadn', hl', hcl', _, hsl'⟩ := (HL.out.keep (hC.out.old.mono (Nat.le_refl _))).at_ hun
          obtain rfl := Option.some.inj hadn'
          obtain rfl : l = l' := Option.some.inj (HHL.out.symm.trans hl')
          rw [HLK.out] at hcl' hsl'
          obtain ⟨adp, x, rfl, hx, hcp⟩ := hsl'.int_ hjl
          have HDN := Lib.hid (fun (m : Nat) => (⟨hC.out.pure (pure_drewN wr m), hO.out.below (pure_drewN wr m) (Array.getElem?_eq_some_iff.1 hO.out).1, own_below hrow.out (pure_drewN wr m)⟩ : _ ∧ _ ∧ _))
          clear hst hpre hx' hsl' hl'
          go_wp2_with fail
          go_quiet (fail)
          obtain ⟨hC, hO, hrow⟩ := HDN.out nq
          obtain ⟨v9, hv9⟩ : ∃ v9, wr.drewN nq = v9 := ⟨_, rfl⟩
          rw [hv9] at hC hO hrow
          rw [hv9]
          have hC := Lib.hid hC
          have hO := Lib.hid hO
          have hrow := Lib.hid hrow
          clear hv9 HDN b0 b1 hcs hcl' hcp
          have hcx := row_cell hrow.out hrl hjl
          have hfx := hrow.out.frozenAt j
          have hrs := row_snoc hrw.out hx
          have HSN' := Lib.hid hSn
          rcases HLO.out x (List.mem_of_getElem? hx) with rfl | ⟨t, rfl, htn⟩
          · rw [step_neg (by omega)] at hrs
            have hst := (hrow.out.stored j (.int .i64 (-1))).1
            rw [← List.map_set, fill_next hrl hjl] at hst
            have hks := Keeps.of_setCell v9 ⟨g, j, none⟩ (.int .i64 (-1))
            obtain ⟨hgcs, hgc⟩ := own_block hrow.out rfl
            have hgob : ¬ ob = g := fun e => own_ne_blk hrow.out (show v9.heap[ob]? = some (.cells _ 50 (0, 0)) from hO.out) (by decide) (by rw [e]; rfl)
            have HC9 := Lib.hid (hC.out.keeps hks (fun b hb => ⟨hb, by rw [show b = g from hb]; exact HGW.out, hgcs, by rw [show b = g from hb]; exact hgc⟩))
            have HO9 := Lib.hid (auto_keeps hO.out hks hgob)
            have HRS := Lib.hid hrs
            have HROW := Lib.hid hst
            have HLEN := Lib.hid (show S'.length ≤ S.length + (j + 1) ∧ (row ++ [-1]).length = j + 1 ∧ ∀ x ∈ S', x < n from ⟨by omega, by rw [List.length_append, hrl]; rfl, hSn⟩)
            clear hrs hst hks hSn hx hrow hfs hSj hgc hgob hC hO
            go_wp2_with fail
            exact ⟨⟨j + 1, S', row ++ [-1], by go_num, by omega, HRS, HLEN, HC9, HO9, HROW⟩, by simp [intOf]; omega⟩
          · rw [HN.out] at htn
            have htn' : (t : Int) < (n : Int) := by omega
            have ht0 : (0 : Int) ≤ (t : Int) := by omega
            have hnn : ¬ (t : Int) < 0 := by omega
            obtain ⟨q0, _⟩ := int_at hC.out.grp htn
            obtain ⟨M1, hM1, hrel1⟩ := hC.out.map
            dsimp only at q0 hM1
            have hgb := HGB.out t htn
            obtain ⟨γ, hγ⟩ : ∃ γ, G.getD t 0 = γ := ⟨_, rfl⟩
            rw [hγ] at q0 hgb
            have hkey := keyI_of γ (by omega)
            have HG := Lib.hid hγ
            obtain ⟨hgcs, hgc⟩ := own_block hrow.out rfl
            have hgob : ¬ ob = g := fun e => own_ne_blk hrow.out (show v9.heap[ob]? = some (.cells _ 50 (0, 0)) from hO.out) (by decide) (by rw [e]; rfl)
            clear hγ
            by_cases hin : γ ∈ keysG G S'
            · have HH := Lib.hid (show Maps.has M1 (.int .i64 (γ : Int)) = true by rw [(hrel1.2 γ).1]; exact decide_eq_true hin)
              obtain ⟨hlk1, hlk2⟩ := look_in (S := S') (t := t) (by rw [HG.out]; exact hin)
              rw [step_in hlk1] at hrs
              obtain ⟨ix, hix⟩ : ∃ ix, RuleP.look (eG G) S' t = ix := ⟨_, rfl⟩
              rw [hix] at hrs hlk2
              have HAT := Lib.hid ((hrel1.2 γ).2 ix (by rw [← HG.out]; exact hlk2))
              have hst := (hrow.out.stored j (.int .i64 (ix : Int))).1
              rw [← List.map_set, fill_next hrl hjl] at hst
              have hks := Keeps.of_setCell v9 ⟨g, j, none⟩ (.int .i64 (ix : Int))
              have HC9 := Lib.hid (hC.out.keeps hks (fun b hb => ⟨hb, by rw [show b = g from hb]; exact HGW.out, hgcs, by rw [show b = g from hb]; exact hgc⟩))
              have HO9 := Lib.hid (auto_keeps hO.out hks hgob)
              have HRS := Lib.hid hrs
              have HROW := Lib.hid hst
              have HLEN := Lib.hid (show S'.length ≤ S.length + (j + 1) ∧ (row ++ [(ix : Int)]).length = j + 1 ∧ ∀ x ∈ S', x < n from ⟨by omega, by rw [List.length_append, hrl]; rfl, hSn⟩)
              clear hrs hst hks hC hO hrow hfs hSj hSn hx hrel1 hin hix hlk1 hlk2 hgc hgob hgb
              go_wp2_with (at_lookup; refine wpList_lookup_own_ok_int _ rfl _ _ _ rfl 3 3 .i64 keyI Tryz.underlying132 Tryz.underlying3 (zeroInt _) mb _ M1 rfl hM1 _ _ rfl hkey ?_; intro c' hat' _; rw [HH.out]; obtain rfl : c' = (ix : Int) := by (have h := hat'.symm.trans HAT.out; injection h with h; injection h))
              exact ⟨⟨j + 1, S', row ++ [(ix : Int)], by go_num, by omega, HRS, HLEN, HC9, HO9, HROW⟩, by simp [intOf]; omega⟩
            · have HH := Lib.hid (show Maps.has M1 (.int .i64 (γ : Int)) = false by rw [(hrel1.2 γ).1]; exact decide_eq_false hin)
              have hlk1 := look_out (S := S') (t := t) (by rw [HG.out]; exact hin)
              rw [step_out hlk1] at hrs
              have HREL1 := Lib.hid hrel1
              have HIN := Lib.hid hin
              rw [keysG_len] at hM1
              have hsl9 : v9.ownsRow w.heap.size 3 1 (.slice (some ads') S'.length sc') S'.length ((ints S').map (Value.int .i64)) := hC.out.st
              have hm0 : S'.length < maxLen := by simp only [maxLen]; omega
              have hm1 : S'.length + 1 ≤ maxLen := by simp only [maxLen]; omega
              have hm2 : (S'.length + 1) * 8 ≤ 140737488355328 := by omega
              have K10 := Lib.hid (fun (w10 : World) (hg10 : v9.grownBy w10 (some mb)) => (by
                have hk := Keeps.of_grown hg10
                obtain ⟨_, ⟨es, ck, hbk, _⟩, _⟩ := hC.out.map
                have hne : ∀ {e n : Nat} {v : Value} {xs : List Value} {base : Nat}, v9.ownsRow base e 1 v n xs → w10.ownsRow base e 1 v n xs := fun ho => own_keeps ho hk (fun g' hg' e => by
                  injection e with e
                  rw [← e] at hg'
                  exact own_ne_map ho hbk hg')
                exact ⟨auto_keeps hO.out hk (fun e => by
                  injection e with e
                  have h1 := hO.out
                  unfold AutoAt at h1
                  have h2 : v9.heap[mb]? = _ := hbk
                  rw [← e, h2] at h1
                  cases h1), hne hrow.out, hne hsl9, (int_at (hne hC.out.grp) htn).1, Nat.le_trans hC.out.old.size hk.size⟩ : AutoAt w10 ob (.int .i64 (k : Int)) nv ∧ w10.ownsRow w.heap.size 3 1 (.slice (some ⟨g, 0, none⟩) k k) k ((row ++ List.replicate (k - j) 0).map (Value.int .i64)) ∧ w10.ownsRow w.heap.size 3 1 (.slice (some ads') S'.length sc') S'.length ((ints S').map (Value.int .i64)) ∧ w10.cell? ⟨gg, t, none⟩ = some (.int .i64 ((G.getD t 0 : Nat) : Int)) ∧ w.heap.size ≤ w10.heap.size))
              have HLEN := Lib.hid (show (S' ++ [t]).length ≤ S.length + (j + 1) ∧ (row ++ [((S'.length : Nat) : Int)]).length = j + 1 ∧ ∀ x ∈ S' ++ [t], x < n from ⟨by rw [List.length_append]; simp only [List.length_cons, List.length_nil]; omega, by rw [List.length_append, hrl]; rfl, fun x hx => by
                rcases List.mem_append.1 hx with h | h
                · exact hSn x h
                · rw [List.mem_singleton.1 h]; exact htn⟩)
              have HRS := Lib.hid hrs
              have HQS := Lib.hid (fun (wz : World) (h : wz.ownsRow w.heap.size 3 1 (.slice (some ⟨g, 0, none⟩) k k) k ((row ++ List.replicate (k - j) 0).map (Value.int .i64))) => row_cell h hrl hjl)
              have HLL := Lib.hid hll
              have HRL := Lib.hid hrl
              clear hrs hrow hfs hSj hSn hx hrel1 hin hlk1 hgc hgob hgb hO hsl9
              go_wp2_with (first
                | (at_lookup; refine wpList_lookup_own_ok_int _ rfl _ _ _ rfl 3 3 .i64 keyI Tryz.underlying132 Tryz.underlying3 (zeroInt _) mb _ M1 rfl hM1 _ _ rfl hkey ?_; intro c' hat' _; rw [HH.out])
                | (at_mapUpdate; refine wpList_mapUpdate_own _ rfl _ _ _ 132 rfl 3 3 keyI Tryz.underlying132 _ mb S'.length M1 rfl hM1 hm0 _ _ _ rfl rfl hkey _ [] (plainElem_int Tryz.underlying3 (WalkArith.wf_i64 (by omega))) ?_
                   intro w10 hmap10 hg10
                   have hC10 := hC.out.mapped (x := γ) hg10 (by rw [keysG_len]; exact hmap10) HREL1.out HIN.out
                   obtain ⟨hO10, hrow10, hsl10, q10, z10⟩ := K10.out w10 hg10)
                | (at_builtin; refine wpList_push rfl _ _ _ rfl tInts hsl10 rfl _ 0 rfl rfl rfl hm1 hm2 z10 ?_
                   intro g11 cap11 w11 hown11 hg11 hat11 hlt11
                   have hk11 := Keeps.of_grown hg11
                   have hC11 := hC10.pushed (t := t) (sv' := .slice (some ⟨g11, 0, none⟩) (S'.length + 1) cap11) hown11 hk11 (fun g' hg' => by
                     have e : g11 = g' := by simpa [Value.ownBlock] using hg'
                     rw [← e]
                     exact hat11.imp id Nat.le_of_lt) (fun b hb => by rw [show b = g from hb]; exact (hrow10.lt g rfl).2)
                   have hrow11 := own_keeps hrow10 hk11 (fun g' hg' hQ => by
                     have e : g = g' := by simpa [Value.ownBlock] using hg'
                     exact (hC10.nX g' e.symm).2 hQ)
                   have hO11 := auto_keeps hO10 hk11 (fun hQ => own_ne_blk hsl10 (show w10.heap[ob]? = some (.cells _ 50 (0, 0)) from hO10) (by decide) hQ)
                   have qs : w11.cell? ⟨g, j, none⟩ = some (.int .i64 0) := HQS.out w11 hrow11
                   have ps := hrow11.frozenAt j))
              rw [← HG.out, ← keysG_snoc] at hC11
              have hst := (hrow11.stored j (.int .i64 ((S'.length : Nat) : Int))).1
              rw [← List.map_set, fill_next HRL.out hjl] at hst
              have hks := Keeps.of_setCell w11 ⟨g, j, none⟩ (.int .i64 ((S'.length : Nat) : Int))
              obtain ⟨ggs, ggc⟩ := own_block hrow11 rfl
              have hgob : ¬ ob = g := fun e => own_ne_blk hrow11 (show w11.heap[ob]? = some (.cells _ 50 (0, 0)) from hO11) (by decide) (by rw [e]; rfl)
              have HC9 := Lib.hid (hC11.keeps hks (fun b hb => ⟨hb, by rw [show b = g from hb]; exact HGW.out, ggs, by rw [show b = g from hb]; exact ggc⟩))
              have HO9 := Lib.hid (auto_keeps hO11 hks hgob)
              exact ⟨⟨j + 1, S' ++ [t], row ++ [((S'.length : Nat) : Int)], by go_num, by omega, HRS, HLEN, HC9, HO9, Lib.hid hst⟩, by simp [intOf]; omega⟩
        · obtain ⟨v9, rfl⟩ : ∃ v9, v9 = wr := ⟨_, rfl⟩
          have hjl' : ¬ (j : Int) < (k : Int) := by omega
          obtain rfl : k = j := by omega
          have hrw2 := hrw.out
          rw [List.take_of_length_le (by rw [HLK.out]; exact Nat.le_refl _)] at hrw2
          have hrowk := hrow.out
          rw [Nat.sub_self, List.replicate_zero, List.append_nil] at hrowk
          have hnx : v9.ownsRow w.heap.size 22 1 nv i nr := by
            have h := hC.out.nx.lst
            rw [HI.out] at h
            exact h
          obtain ⟨NB, nb, rfl, _, _⟩ := own_slice hnx
          have hm1 : i + 1 ≤ maxLen := by simp only [maxLen]; omega
          have hm2 : (i + 1) * 24 ≤ 140737488355328 := by omega
          have hBw : w.heap.size ≤ v9.heap.size := hC.out.old.size
          obtain ⟨o0, o1, p0, p1⟩ := hO.out.facts
          have HPRE := Lib.hid (fun (w9 : World) (hk : Keeps (fun b => (Value.slice NB i nb).ownBlock = some b) v9 w9) => (auto_keeps hO.out hk (fun hQ => own_ne_blk hnx (show v9.heap[ob]? = some (.cells _ 50 (0, 0)) from hO.out) (by decide) hQ) : AutoAt w9 ob (.int .i64 (k : Int)) (.slice NB i nb)))
          have HRW := Lib.hid hrw2
          have HROW := Lib.hid hrowk
          have HRL := Lib.hid hrl
          clear hrw2 hrowk hrow hrw hfs hSj hSn hrl
          go_wp2_with (at_builtin; refine wpList_push rfl _ _ _ rfl tIntss hnx rfl _ 0 rfl rfl rfl hm1 hm2 hBw ?_; intro g2 cap2 w9 hown9 hg9 hat9 hlt9; obtain ⟨d4, d5, e4, e5⟩ := (HPRE.out w9 (Keeps.of_grown hg9)).facts)
          have hk9 := Keeps.of_grown hg9
          have hO9 := HPRE.out w9 hk9
          have hrow9 : v9.ownsRow w.heap.size 3 1 (.slice (some ⟨g, 0, none⟩) k k) row.length (row.map (Value.int .i64)) := by rw [HRL.out]; exact HROW.out
          have hC9 := (hC.out.mono (X' := fun _ => False) (fun _ hf => hf.elim)).nexted (l := row) (v := .slice (some ⟨g, 0, none⟩) k k) (nv' := .slice (some ⟨g2, 0, none⟩) (i + 1) cap2) hrow9 (fun g' hg' hx => by
            have e : g = g' := by simpa [Value.ownBlock] using hg'
            rw [← e] at hx
            rcases hx with hx | hx
            · exact hx
            · exact (hC.out.nX g rfl).2 hx) (fun g' hg' u hu => by
            have e : g = g' := by simpa [Value.ownBlock] using hg'
            rw [← e]
            exact hC.out.nx.not_X (.inl rfl) u hu) (by rw [HI.out]; exact hown9) hk9
          have HC10 := Lib.hid (hC9.stored hO9 1 (.slice (some ⟨g2, 0, none⟩) (i + 1) cap2))
          have HO10 := Lib.hid (auto_set1 hO9 (.slice (some ⟨g2, 0, none⟩) (i + 1) cap2))
          have hltF : F.length < S.length := by rw [HI.out]; exact hlt
          have hrwF : rowF (eG G) S (L.getD (S.getD F.length 0) []) = (S', row) := by rw [HI.out, HLU.out]; exact HRW.out
          have hfF : foldTo (eG G) L F.length = (S, F) := hfd.out
          exact ⟨⟨S', F ++ [row], _, _, by rw [List.length_append, HI.out]; go_num, Lib.hid (fold_round hfF hltF hrwF), Lib.hid (inv_round HA.out HRE.out hfi.out hltF hrwF), HC10, HO10⟩, by simp [intOf]; omega⟩
    · have hlt' : ¬ (i : Int) < (S.length : Int) := by omega
      have hle := least_of HA.out (parted_eqB HPD.out) (n := F.length) (by rw [show foldTo (fun i j => decide (G.getD i 0 = G.getD j 0)) L F.length = (S, F) from hfd.out, HI.out]; exact hlt)
      rw [show foldTo (fun i j => decide (G.getD i 0 = G.getD j 0)) L F.length = (S, F) from hfd.out] at hle
      have hF : F = leastA k L := hle
      obtain ⟨NB, nb, rfl, _, _⟩ := own_slice hC.out.nx.lst
      obtain ⟨o0, o1, p0, p1⟩ := hO.out.facts
      have hres : AutoAt v8 (w.heap.size + 1) (.int .i64 0) (.slice none 0 0) := hC.out.res
      have hblk : ∀ b, b = (⟨w.heap.size + 1, 0, none⟩ : Addr).block → v8.heap[b]? = some (.cells #[.int .i64 0, .slice none 0 0] 50 (0, 0)) := fun b e => by rw [show b = w.heap.size + 1 from e]; exact hres
      have HA6 := Lib.hid (hres.set2 (.int .i64 (k : Int)) (.slice NB F.length nb))
      have HN6 := Lib.hid ((hC.out.nx.mono (X' := fun _ => False) (fun _ hf => hf.elim)).keeps ((Keeps.of_setCell v8 ⟨w.heap.size + 1, 0, none⟩ (.int .i64 (k : Int))).trans (Keeps.of_setCell _ ⟨w.heap.size + 1, 1, none⟩ (.slice NB F.length nb)) (fun _ _ h => h))
        (fun b hb => hC.out.nx.not_lst (hblk b hb) (by decide)) (fun b hb => hC.out.nx.not_el (hblk b hb) (by decide)))
      have hold : Below w.heap.size w v8 := hC.out.old
      have HB6 := Lib.hid ((hold.setCell (p := ⟨w.heap.size + 1, 0, none⟩) (Nat.le_succ _) (.int .i64 (k : Int))).setCell (p := ⟨w.heap.size + 1, 1, none⟩) (Nat.le_succ _) (.slice NB F.length nb))
      have HF := Lib.hid hF
      obtain ⟨d0, d1, f0, f1⟩ := hres.facts
      clear hF hle hold hblk hres hC hO hfd hfi hst
      go_wp2_with fail
      obtain ⟨d0, d1, _, _⟩ := HA6.out.facts
      refine bodyPost_ret (v := .agg #[.int .i64 (k : Int), .slice NB F.length nb]) (by simp [results, Tryz.results49, go_sem, d0, d1]) rfl ⟨_, rfl, ⟨nr, ?_⟩, HB6.out⟩
      rw [← HF.out]
      exact HN6.out
end Go.Proofs.YthilnpfpllplaaaGreatDoor

namespace Go.Proofs.YthilnpfpllplaaaGreatDoor
open Go.RowKit Go.WideMaps Go.Maps BagP RuleP SubP

def okK (l : List Nat) : Prop := ∀ x ∈ l, x < 65536
theorem below_getD {G : List Nat} {n : Nat} (hl : G.length = n) (h : ∀ i, i < n → G.getD i 0 < n) (hn : n ≤ 4096) (i : Nat) : G.getD i 0 < 65535 := by
  rcases Nat.lt_or_ge i n with h1 | h1
  · have := h i h1; omega
  · rw [List.getD_eq_getElem?_getD, List.getElem?_eq_none (by omega)]; simp

/-- What the outer loop keeps. -/
structure ClC (w0 w : World) (k n nc gg : Nat) (adn : Addr) (L : List (List Int)) (G : List Nat) (c : Nat) : Prop where
  old : Below w0.heap.size w0 w
  auto : AutoAt w w0.heap.size (.int .i64 (k : Int)) (.slice (some adn) n nc)
  grp : w.ownsRow w0.heap.size 3 1 (.slice (some ⟨gg, 0, none⟩) n n) n ((ints G).map (Value.int .i64))
  len : G.length = n
  lt : ∀ i, i < n → G.getD i 0 < n
  coarse : Coarse k L G
  cnt : dcnt G n = c

theorem push_two {P : Program} {w w0 : World} {ops : Array Oper} {rest : List Oper} {o : Oper} {a : Act} {Q : Exit → Act → World → Prop} (hgd : o.guard = none) (s x : Operand) (t : TypeId)
    (ho : o.op = .call { callee := .builtin .append, args := #[s, x], argTypes := #[t, t] }) {e : TypeId} {z : Value} {bytes : Nat} (hT : ElemT P t e z bytes)
    {base : Nat} {v : Value} {n : Nat} {xs : List Value} (hown : w0.ownsRow base e 1 v n xs) (hs : a.eval s = v) (u1 u2 : Value) (hw : w = w0.alloc (.cells #[u1, u2] e))
    (hx : a.eval x = .slice (some ⟨w0.heap.size, 0, none⟩) 2 2) (hu1 : u1.oneCell' = true) (hu2 : u2.oneCell' = true) (h63 : n + 2 ≤ maxLen) (hbytes : (n + 2) * bytes ≤ 140737488355328) (hbase : base ≤ w0.heap.size)
    (h : ∀ g cap w', w'.ownsRow base e 1 (.slice (some ⟨g, 0, none⟩) (n + 2) cap) (n + 2) (xs ++ [u1, u2]) → w0.grownBy w' v.ownBlock →
      wpList P ops Q rest (a.put o.dst (.slice (some ⟨g, 0, none⟩) (n + 2) cap)) w') : wpList P ops Q (o :: rest) a w := by
  subst hw
  obtain ⟨i, hi, hz, hz1, hz2⟩ := info_parts hT.info
  have hown1 : (w0.alloc (.cells #[u1, u2] e)).ownsRow base e 1 v n xs := hown.alloc _
  refine wpList_append_lies _ hgd s x t ho base e i z 1 bytes hT.und hi hz hz1 hz2 (by rw [hT.one]; rfl) (by decide) v n xs hs hown1 ⟨w0.heap.size, 0, none⟩ 2 2 [u1, u2] hx rfl ?_ ?_ (by decide) h63 hbytes (by simp; omega) _ rfl ?_
  · intro j u' hj
    match j, hj with
    | 0, hj => simp at hj; subst hj; simp [Addr.add]
    | 1, hj => simp at hj; subst hj; simp [Addr.add]
  · intro u' hu'; simp at hu'; rcases hu' with rfl | rfl
    · exact hu1
    · exact hu2
  · intro g cap w' h1 h2 h3 h4
    refine h g cap w' h1 ⟨h2.os, h2.tape, h2.output, Nat.le_trans (by simp) h2.size, fun k hk hn => ?_⟩
    rw [h2.block k (by simp; omega) hn]
    exact Below.heap_alloc _ _ _ hk
theorem byteN_val (x : Nat) (h : x < 65536) : (byteN x).map bv = [.int .u8 ((x : Int) / 256), .int .u8 ((x : Int) % 256)] := by
  unfold byteN bv
  simp
  omega
theorem key_take {G : List Nat} {L : List (List Int)} {i j u : Nat} (h : (keyN G L i)[j + 1]? = some u) : bytesN ((keyN G L i).take (j + 1 + 1)) = bytesN ((keyN G L i).take (j + 1)) ++ byteN u := by
  rw [List.take_add_one (i := j + 1), h, Option.toList_some, bytesN_snoc]
theorem keyN_at {G : List Nat} {L : List (List Int)} {i j : Nat} {y : Int} (h : (L.getD i [])[j]? = some y) : (keyN G L i)[j + 1]? = some (if y < 0 then 65535 else G.getD y.toNat 0) := by
  unfold keyN
  rw [List.getElem?_cons_succ, List.getElem?_map, h]
  rfl
theorem fill_nat {out : List Nat} {n i : Nat} (hl : out.length = i) (hi : i < n) (x : Nat) : ((ints (out ++ List.replicate (n - i) 0)).map (Value.int .i64)).set i (.int .i64 (x : Int)) = (ints ((out ++ [x]) ++ List.replicate (n - (i + 1)) 0)).map (Value.int .i64) := by
  rw [← List.map_set]
  congr 1
  unfold ints
  rw [← List.map_set]
  congr 1
  rw [List.set_append_right _ _ (by omega), hl, Nat.sub_self, show n - i = (n - (i + 1)) + 1 by omega, List.replicate_succ, List.set_cons_zero, List.append_assoc]
  rfl

set_option maxRecDepth 100000 in
set_option maxHeartbeats 1500000 in
theorem classes_c : ClassesOk := by
  intro w k n nc NA L hn hA hL hk0 hk4 hn4
  have hn0 : 0 < n := by rw [← hn]; exact hA.pos
  obtain ⟨adn, _, _, _, rfl, _⟩ := hL.at_ hn0
  have hmm := @run_makeMap Tryz.prog
  have hmk := run_make_row' (P := Tryz.prog) 22 3 (.int .i64 0) 8 tInts.und tInts.info rfl .i64 .i64 n (by omega) (by omega)
  have hnm : n ≤ maxLen := by simp only [maxLen]; omega
  obtain ⟨W1, hW1⟩ : ∃ W1, w.alloc (.cells #[.int .i64 (k : Int), .slice (some adn) n nc] 50) = W1 := ⟨_, rfl⟩
  have hz1 : W1.heap.size = w.heap.size + 1 := by rw [← hW1]; simp
  have ha1 : AutoAt W1 w.heap.size (.int .i64 (k : Int)) (.slice (some adn) n nc) := by rw [← hW1]; exact heap_new _ _
  have hb1 := (Below.refl w.heap.size w).alloc (Nat.le_refl _) (.cells #[.int .i64 (k : Int), .slice (some adn) n nc] 50)
  rw [hW1] at hb1
  have hr2 := make_ints W1 n hnm
  have hb12 := (Below.refl W1.heap.size W1).alloc (Nat.le_refl _) (.cells (madeCells #[.int .i64 0] n) 3)
  obtain ⟨W2, hW2⟩ : ∃ W2, W1.alloc (.cells (madeCells #[.int .i64 0] n) 3) = W2 := ⟨_, rfl⟩
  rw [hW2] at hr2 hb12
  have hC2 : ClC w W2 k n nc W1.heap.size adn L (List.replicate n 0) 1 := {
    old := hb1.trans (hb12.mono hb1.size)
    auto := ha1.below hb12 (by omega)
    grp := own_base hr2 hb1.size
    len := by simp
    lt := fun i hi => by rw [List.getD_eq_getElem?_getD, List.getElem?_replicate, if_pos hi]; exact hn0
    coarse := coarse_zero k L n
    cnt := dcnt_zero hn0 }
  have HC2 := Lib.hid hC2
  have HW := Lib.hid (⟨hW1, hW2, hz1⟩ : _ ∧ _ ∧ _)
  have HN := Lib.hid hn
  have HA := Lib.hid hA
  have HL := Lib.hid hL
  rw [hz1] at HC2
  clear hC2 hW1 hW2 hz1 hr2 hb12 hb1 ha1 hA hL hn
  obtain ⟨g1, hg1⟩ : ∃ g1, w.heap.size + 1 = g1 := ⟨_, rfl⟩
  have HG1 := Lib.hid hg1
  rw [hg1] at HC2
  clear hg1
  unfold autoV
  go_enter Tryz.func85, Tryz.ntmps85
  go_wp2_with fail
  rw [HW.out.1, HW.out.2.1, HG1.out]
  go_loopw [3, 4] (fun gv cv wl => ∃ (gg c : Nat) (G : List Nat), gv = .slice (some ⟨gg, 0, none⟩) n n ∧ cv = .int .i64 (c : Int) ∧ Hid (ClC w wl k n nc gg adn L G c)) (fun _ cv _ => n - (intOf cv).toNat)
  case atStart => exact ⟨g1, 1, List.replicate n 0, rfl, rfl, HC2⟩
  case round =>
    obtain ⟨gg, c, G, rfl, rfl, hC⟩ := hrel
    clear HC2
    obtain ⟨v0, rfl⟩ : ∃ v0, v0 = wr := ⟨_, rfl⟩
    have hmp := World.ownsMap_made v0 Tryz.prog 9 (plainElem (H := Unit) Tryz.prog 3)
    have hbm := (Below.refl v0.heap.size v0).alloc (Nat.le_refl _) (.map #[] 0)
    obtain ⟨V1, hV1⟩ : ∃ V1, v0.alloc (.map #[] 0) = V1 := ⟨_, rfl⟩
    rw [hV1] at hmp hbm
    have hz : V1.heap.size = v0.heap.size + 1 := by rw [← hV1]; simp
    have hrn := make_ints V1 n hnm
    have hbn := (Below.refl V1.heap.size V1).alloc (Nat.le_refl _) (.cells (madeCells #[.int .i64 0] n) 3)
    obtain ⟨V2, hV2⟩ : ∃ V2, V1.alloc (.cells (madeCells #[.int .i64 0] n) 3) = V2 := ⟨_, rfl⟩
    rw [hV2] at hrn hbn
    obtain ⟨mb, hmb⟩ : ∃ mb, v0.heap.size = mb := ⟨_, rfl⟩
    obtain ⟨nb, hnb⟩ : ∃ nb, mb + 1 = nb := ⟨_, rfl⟩
    have hb02 := hbm.trans (hbn.mono hbm.size)
    have hmp2 : V2.ownsMap Tryz.prog 9 (plainElem (H := Unit) Tryz.prog 3) mb 0 (.map []) := by
      obtain ⟨es, clock, hb, rest⟩ := hmp
      rw [hmb] at hb
      exact ⟨es, clock, (hbn.block mb (by omega)).trans hb, rest⟩
    rw [hz, hmb, hnb] at hrn
    rw [hmb] at hb02
    have HMP := Lib.hid hmp2
    have HRN := Lib.hid hrn
    have HB02 := Lib.hid hb02
    have HVV := Lib.hid (⟨hV1, hV2⟩ : _ ∧ _)
    have HMB := Lib.hid hmb
    have HNB := Lib.hid hnb
    have HLT := Lib.hid (below_getD hC.out.len hC.out.lt hn4)
    clear hmp hmp2 hrn hb02 hbn hbm hV1 hV2 hz
    go_wp2_with fail
    clear hmb hnb
    rw [HVV.out.1, HVV.out.2]
    go_loopw [7] (fun iv wl => ∃ (i : Nat) (S : List (List Nat)) (out : List Nat), i ≤ n ∧ iv = .int .i64 (i : Int) ∧ Hid (NumK (keyN G L) i S out) ∧ Hid (wl.ownsRow mb 3 1 (.slice (some ⟨nb, 0, none⟩) n n) n ((ints (out ++ List.replicate (n - i) 0)).map (Value.int .i64))) ∧
      Hid (∃ M, wl.ownsMap Tryz.prog 9 (plainElem (H := Unit) Tryz.prog 3) mb S.length M ∧ RelK bytesN okK M S ∧ Maps.size M = S.length) ∧ Hid (Below mb v0 wl)) (fun iv _ => n - (intOf iv).toNat)
    case atStart => exact ⟨0, [], [], Nat.zero_le _, rfl, Lib.hid (NumK.start _), Lib.hid (own_base HRN.out (by have := HNB.out; omega)), Lib.hid ⟨_, HMP.out, relK_nil _ _, rfl⟩, HB02⟩
    case round =>
      obtain ⟨i, S, out, hi, rfl, hNK, hrow, hmap, hB⟩ := hrel
      clear HMP HRN HB02
      obtain ⟨v1, rfl⟩ : ∃ v1, v1 = wr := ⟨_, rfl⟩
      by_cases hin : i < n
      · have hin' : (i : Int) < (n : Int) := by omega
        have hi0 : (0 : Int) ≤ (i : Int) := by omega
        have hb0 : Below v0.heap.size v0 v1 := by rw [HMB.out]; exact hB.out
        have hg := own_below hC.out.grp hb0
        obtain ⟨q0, _⟩ := int_at hg hin
        obtain ⟨x, hx⟩ : ∃ x, G.getD i 0 = x := ⟨_, rfl⟩
        rw [hx] at q0
        have hxl : x < 65535 := by rw [← hx]; exact HLT.out i
        have HX := Lib.hid hx
        have HB0 := Lib.hid hb0
        clear hx hg hb0
        go_wp2_with fail
        go_region
        obtain ⟨kb, hkb⟩ : ∃ kb, v1.heap.size = kb := ⟨_, rfl⟩
        have hlk := World.ownsRow_lit (base := v1.heap.size) (e := 5) (size := 1) v1 #[.int .u8 ((x : Int) / 256), .int .u8 ((x : Int) % 256)] 2 (Nat.le_refl _) (by decide) rfl
        have hblk := ((Below.refl v1.heap.size v1).alloc (Nat.le_refl _) (.cells #[.int .u8 ((x : Int) / 256), .int .u8 ((x : Int) % 256)] 5)).drew
        have hlk2 := own_below hlk (Below.refl (v1.alloc (.cells #[.int .u8 ((x : Int) / 256), .int .u8 ((x : Int) % 256)] 5)).heap.size _).drew
        obtain ⟨v2, hv2⟩ : ∃ v2, (v1.alloc (.cells #[.int .u8 ((x : Int) / 256), .int .u8 ((x : Int) % 256)] 5)).drew = v2 := ⟨_, rfl⟩
        rw [hv2] at hlk2 hblk
        rw [hkb] at hlk2 hblk
        rw [hv2, hkb]
        have e0 : (bytesN ((keyN G L i).take (0 + 1))).map bv = [.int .u8 ((x : Int) / 256), .int .u8 ((x : Int) % 256)] := by
          rw [← byteN_val x (by omega)]
          unfold keyN
          rw [HX.out]
          simp [bytesN]
        have HK2 : Hid (v2.ownsRow kb 5 1 (.slice (some ⟨kb, 0, none⟩) 2 2) 2 ((bytesN ((keyN G L i).take (0 + 1))).map bv)) := Lib.hid (by rw [e0]; exact hlk2)
        have HBK := Lib.hid hblk
        have HKB := Lib.hid hkb
        clear hlk hlk2 hblk hv2 hkb e0 q0
        go_wp2_with fail
        go_loopw [8, 9] (fun kv sv wl => ∃ (j m : Nat), sv = .int .i64 (j : Int) ∧ j ≤ k ∧ Hid (m = 2 * (j + 1)) ∧ Hid (wl.ownsRow kb 5 1 kv m ((bytesN ((keyN G L i).take (j + 1))).map bv)) ∧ Hid (Below kb v1 wl)) (fun _ sv _ => k - (intOf sv).toNat)
        case atStart => exact ⟨0, 2, rfl, Nat.zero_le _, Lib.hid rfl, HK2, HBK⟩
        case round =>
          obtain ⟨j, m, rfl, hj, hm, hkey, hBk⟩ := hrel
          clear HK2 HBK
          obtain ⟨v3, rfl⟩ : ∃ v3, v3 = wr := ⟨_, rfl⟩
          have hbk1 : Below v1.heap.size v1 v3 := by rw [HKB.out]; exact hBk.out
          have hb03 := HB0.out.trans (hbk1.mono HB0.out.size)
          obtain ⟨b0, b1, _, _⟩ := (hC.out.auto.below hb03 (Array.getElem?_eq_some_iff.1 hC.out.auto).1).facts
          obtain ⟨KA, kc, rfl, hmc, hmx⟩ := own_slice hkey.out
          have hmv := hm.out
          have hzk : kb ≤ v3.heap.size := by have h1 := hbk1.size; have h2 := HKB.out; omega
          by_cases hjk : j < k
          · have hjk' : (j : Int) < (k : Int) := by omega
            have hj0 : (0 : Int) ≤ (j : Int) := by omega
            obtain ⟨adn', l, P, pc, hadn, hl, hcl, _, hsl⟩ := (HL.out.keep (hC.out.old.trans (hb03.mono hC.out.old.size))).at_ hin
            obtain rfl := Option.some.inj hadn
            have hlk : l.length = k := HA.out.len l (List.mem_of_getElem? hl)
            rw [hlk] at hcl hsl
            obtain ⟨adp, y, rfl, hy, hcy⟩ := hsl.int_ hjk
            have hld : L.getD i [] = l := by rw [List.getD_eq_getElem?_getD, hl]; rfl
            have hkat := keyN_at (G := G) (show (L.getD i [])[j]? = some y by rw [hld]; exact hy)
            have hmb1 : m + 2 ≤ maxLen := by simp only [maxLen]; omega
            have hmb2 : (m + 2) * 1 ≤ 140737488355328 := by omega
            have hko := hkey.out
            rcases HA.out.ok l (List.mem_of_getElem? hl) y (List.mem_of_getElem? hy) with rfl | ⟨t, rfl, htn⟩
            · rw [if_pos (by omega)] at hkat
              have HKT := Lib.hid (key_take hkat)
              clear hkat hld hl hlk hsl hy hmv
              go_wp2_with (at_builtin; refine push_two rfl _ _ _ rfl tBytes hko rfl _ _ rfl rfl rfl rfl hmb1 hmb2 hzk ?_; intro g' cap' w' hown' hg')
              refine ⟨⟨j + 1, m + 2, by go_num, by omega, Lib.hid (by have := hm.out; omega), Lib.hid ?_, Lib.hid (hBk.out.grown hg' hzk (fun q hq => (hko.lt q hq).1))⟩, by simp [intOf]; omega⟩
              rw [HKT.out, List.map_append]
              exact hown'
            · rw [if_neg (by omega), Int.toNat_natCast] at hkat
              rw [HN.out] at htn
              obtain ⟨q2, _⟩ := int_at (own_below hC.out.grp hb03) htn
              have hzl := HLT.out t
              obtain ⟨z, hz⟩ : ∃ z, G.getD t 0 = z := ⟨_, rfl⟩
              rw [hz] at q2 hzl hkat
              have HKT := Lib.hid (key_take hkat)
              have HBV := Lib.hid (byteN_val z (by omega))
              have htn' : (t : Int) < (n : Int) := by omega
              have ht0 : (0 : Int) ≤ (t : Int) := by omega
              have ht0' : ¬ (t : Int) < 0 := by omega
              clear hkat hld hl hlk hsl hy hz hmv
              go_wp2_with (at_builtin; refine push_two rfl _ _ _ rfl tBytes hko rfl _ _ rfl rfl rfl rfl hmb1 hmb2 hzk ?_; intro g' cap' w' hown' hg')
              refine ⟨⟨j + 1, m + 2, by go_num, by omega, Lib.hid (by have := hm.out; omega), Lib.hid ?_, Lib.hid (hBk.out.grown hg' hzk (fun q hq => (hko.lt q hq).1))⟩, by simp [intOf]; omega⟩
              rw [HKT.out, List.map_append, HBV.out]
              exact hown'
          · have hjk' : ¬ (j : Int) < (k : Int) := by omega
            obtain rfl : k = j := by omega
            have hko := hkey.out
            rw [List.take_of_length_le (by rw [keyN_len HA.out (by rw [HN.out]; exact hin)]; exact Nat.le_refl _)] at hko
            have hkok : okK (keyN G L i) := keyN_lt HLT.out
            obtain ⟨κ, hκ⟩ : ∃ κ, keyN G L i = κ := ⟨_, rfl⟩
            rw [hκ] at hko hkok
            have HKE := Lib.hid hκ
            have hconv := run_own_string (P := Tryz.prog) v3 176 9 5 tBytes.und Tryz.underlying5 Tryz.underlying9 hko
            have hkl : (bytesN κ).length ≤ 100 := by
              rw [bytesN_len, ← hκ, keyN_len HA.out (by rw [HN.out]; exact hin)]
              omega
            have hkof : keyOf Tryz.prog 9 (.string ⟨(bytesN κ).toArray⟩) = some (.string (bytesN κ)) := by
              have := keyOf_string_mk Tryz.underlying9 (s := ⟨(bytesN κ).toArray⟩) (by simp only [ByteArray.size, List.size_toArray, maxLen]; omega)
              simpa using this
            obtain ⟨M, ⟨es, ck, hbm, hrest⟩, hrel, hsz⟩ := hmap.out
            have hM3 : v3.ownsMap Tryz.prog 9 (plainElem (H := Unit) Tryz.prog 3) mb S.length M := ⟨es, ck, (hbk1.block mb (Array.getElem?_eq_some_iff.1 hbm).1).trans hbm, hrest⟩
            have hr3 := own_below hrow.out hbk1
            have hB3 : Below mb v0 v3 := hB.out.trans (hbk1.mono (by have h1 := hB.out.size; have h2 := HMB.out; omega))
            have hm3 : mb ≤ v3.heap.size := by have h1 := hB3.size; have h2 := HMB.out; omega
            have hol := hNK.out.len
            have qs : v3.cell? ⟨nb, i, none⟩ = some (.int .i64 0) := by
              rw [hr3.cellAt i (by omega)]
              unfold ints
              rw [List.getElem?_map, List.getElem?_map, List.getElem?_append_right (by omega), hol, Nat.sub_self, List.getElem?_replicate, if_pos (by omega)]
              rfl
            have ps := hr3.frozenAt i
            have hnm2 : nb ≠ mb := by have := HNB.out; omega
            have hle := hNK.out.le
            by_cases hins : κ ∈ S
            · obtain ⟨ix, hix⟩ := List.getElem?_of_mem hins
              have HH := Lib.hid (relK_in hrel hkok hins)
              have HAT := Lib.hid ((hrel.2 κ hkok).2 ix hix)
              have hst := (hr3.stored i (.int .i64 (ix : Int))).1
              rw [fill_nat hol hin] at hst
              have hks := Keeps.of_setCell v3 ⟨nb, i, none⟩ (.int .i64 (ix : Int))
              have HNK := Lib.hid (hNK.out.old (show S[ix]? = some (keyN G L i) by rw [HKE.out]; exact hix))
              have HROW := Lib.hid hst
              have HMAP : Hid (∃ M, (v3.setCell ⟨nb, i, none⟩ (.int .i64 (ix : Int))).ownsMap Tryz.prog 9 (plainElem (H := Unit) Tryz.prog 3) mb S.length M ∧ RelK bytesN okK M S ∧ Maps.size M = S.length) := Lib.hid (by
                obtain ⟨es', ck', hbm', hrest'⟩ := hM3
                exact ⟨M, ⟨es', ck', (hks.block mb (Array.getElem?_eq_some_iff.1 hbm').1 (fun e => hnm2 (show mb = nb from e).symm)).trans hbm', hrest'⟩, hrel, hsz⟩)
              have HBB := Lib.hid (hB3.setCell (p := ⟨nb, i, none⟩) (by have := HNB.out; show mb ≤ nb; omega) (.int .i64 (ix : Int)))
              clear hst hks hrest hbm hrel hsz hr3 hB3 hol hnm2 hle hins hix hko hkok hκ hkl hkey hBk hb03 hbk1 hmv hm
              go_wp2_with (at_lookup; refine wpList_lookup_own_ok_int _ rfl _ _ _ rfl 9 3 .i64 keyLaw Tryz.underlying175 Tryz.underlying3 (zeroInt _) mb _ M rfl hM3 _ _ rfl hkof ?_; intro c' hat' _; rw [HH.out]; obtain rfl : c' = (ix : Int) := by (have h := hat'.symm.trans HAT.out; injection h with h; injection h))
              exact ⟨⟨i + 1, S, out ++ [ix], by omega, by go_num, HNK, HROW, HMAP, HBB⟩, by simp [intOf]; omega⟩
            · have HH := Lib.hid (relK_out hrel hkok hins)
              have hm0 : S.length < maxLen := by simp only [maxLen]; omega
              have HNK := Lib.hid (hNK.out.new (show keyN G L i ∉ S by rw [HKE.out]; exact hins))
              have HSZ := Lib.hid hsz
              have hsz2 : Maps.size (M.put (.string (bytesN κ)) (.lit (.int .i64 (S.length : Int)))) = S.length + 1 := by
                rw [size_put (hM3.tidy keyLaw), HH.out, hsz]
                rfl
              have hrel2 : RelK bytesN okK (M.put (.string (bytesN κ)) (.lit (.int .i64 (S.length : Int)))) (S ++ [κ]) := relK_snoc (fun a b ha hb h => bytesN_inj a b ha hb h) hrel hkok hins
              have K10 := Lib.hid (fun (w10 : World) (hg10 : v3.grownBy w10 (some mb)) => (by
                have hk := Keeps.of_grown hg10
                have ho := own_keeps hr3 hk (fun g' hg' e => by
                  injection e with e
                  rw [← e] at hg'
                  exact own_ne_map hr3 ((hbk1.block mb (Array.getElem?_eq_some_iff.1 hbm).1).trans hbm) hg')
                exact ⟨ho, by
                  rw [ho.cellAt i (by omega)]
                  unfold ints
                  rw [List.getElem?_map, List.getElem?_map, List.getElem?_append_right (by omega), hol, Nat.sub_self, List.getElem?_replicate, if_pos (by omega)]
                  rfl, ho.frozenAt i, hB3.trans (hk.below hm3 (fun b hb => by injection hb with hb; omega))⟩ : w10.ownsRow mb 3 1 (.slice (some ⟨nb, 0, none⟩) n n) n ((ints (out ++ List.replicate (n - i) 0)).map (Value.int .i64)) ∧ w10.cell? ⟨nb, i, none⟩ = some (.int .i64 0) ∧ w10.frozen? ⟨nb, i, none⟩ = false ∧ Below mb v0 w10))
              have HOL := Lib.hid hol
              have HR2 := Lib.hid (⟨hrel2, hsz2⟩ : _ ∧ _)
              have HNM := Lib.hid hnm2
              clear hrest hbm hrel hsz hr3 hB3 hol hnm2 hins hko hkok hkl hkey hBk hb03 hbk1 hmv hm hrel2 hsz2 qs ps
              go_wp2_with (first
                | (at_lookup; refine wpList_lookup_own_ok_int _ rfl _ _ _ rfl 9 3 .i64 keyLaw Tryz.underlying175 Tryz.underlying3 (zeroInt _) mb _ M rfl hM3 _ _ rfl hkof ?_; intro c' hat' _; rw [HH.out])
                | (at_len; refine wpList_len_own _ rfl _ 175 rfl 9 3 Tryz.underlying175 _ mb _ M rfl hM3 ?_; rw [HSZ.out])
                | (at_mapUpdate; refine wpList_mapUpdate_own _ rfl _ _ _ 175 rfl 9 3 keyLaw Tryz.underlying175 _ mb S.length M rfl hM3 hm0 _ _ _ rfl rfl hkof _ [] (plainElem_int Tryz.underlying3 (WalkArith.wf_i64 (by omega))) ?_
                   intro w10 hmap10 hg10
                   obtain ⟨hr10, q10, p10, hB10⟩ := K10.out w10 hg10))
              have hst := (hr10.stored i (.int .i64 ((S.length : Nat) : Int))).1
              rw [fill_nat HOL.out hin] at hst
              have hks := Keeps.of_setCell w10 ⟨nb, i, none⟩ (.int .i64 ((S.length : Nat) : Int))
              have HMAP : Hid (∃ M, (w10.setCell ⟨nb, i, none⟩ (.int .i64 ((S.length : Nat) : Int))).ownsMap Tryz.prog 9 (plainElem (H := Unit) Tryz.prog 3) mb (S ++ [κ]).length M ∧ RelK bytesN okK M (S ++ [κ]) ∧ Maps.size M = (S ++ [κ]).length) := Lib.hid (by
                obtain ⟨es', ck', hbm', hrest'⟩ := hmap10
                rw [List.length_append]
                exact ⟨_, ⟨es', ck', (hks.block mb (Array.getElem?_eq_some_iff.1 hbm').1 (fun e => HNM.out (show mb = nb from e).symm)).trans hbm', hrest'⟩, HR2.out.1, HR2.out.2⟩)
              have HBB := Lib.hid (hB10.setCell (p := ⟨nb, i, none⟩) (by have := HNB.out; show mb ≤ nb; omega) (.int .i64 ((S.length : Nat) : Int)))
              rw [HKE.out] at HNK
              exact ⟨⟨i + 1, S ++ [κ], out ++ [S.length], by omega, by go_num, HNK, Lib.hid hst, HMAP, HBB⟩, by simp [intOf]; omega⟩
      · have hin' : ¬ (i : Int) < (n : Int) := by omega
        obtain rfl : n = i := by omega
        have hrow2 := hrow.out
        rw [Nat.sub_self, List.replicate_zero, List.append_nil] at hrow2
        obtain ⟨M, hM, _, hsz⟩ := hmap.out
        have hNK2 : NumK (keyN G L) L.length S out := by rw [HN.out]; exact hNK.out
        have hpt := numK_parts (k := k) HLT.out hNK2
        have hdc := hNK.out.dcnt
        have hle := hNK.out.le
        have hfi := hpt.finer HA.out
        rw [HN.out] at hfi
        have hle2 := dcnt_le hfi
        rw [hdc, hC.out.cnt] at hle2
        have hb0 : Below v0.heap.size v0 v1 := by rw [HMB.out]; exact hB.out
        have hBw : w.heap.size ≤ mb := by have h1 := hC.out.old.size; have h2 := HMB.out; omega
        have hC1 : ClC w v1 k n nc nb adn L out S.length := {
          old := hC.out.old.trans (hb0.mono hC.out.old.size)
          auto := hC.out.auto.below hb0 (Array.getElem?_eq_some_iff.1 hC.out.auto).1
          grp := own_base hrow2 hBw
          len := hNK.out.len
          lt := fun p hp => Nat.lt_of_lt_of_le (hNK.out.lt hp) hle
          coarse := hpt.coarse HA.out hC.out.coarse
          cnt := hdc }
        have HC1 := Lib.hid hC1
        have HSZ := Lib.hid hsz
        by_cases hcc : S.length = c
        · have hcc' : ((S.length : Nat) : Int) = (c : Int) := by omega
          have HPD := Lib.hid (hpt.done HA.out hC.out.coarse (by rw [HN.out, hdc, hC.out.cnt]; exact hcc))
          clear hrow2 hNK2 hpt hdc hle hfi hle2 hb0 hBw hC1 hsz hcc
          go_wp2_with (at_len; refine wpList_len_own _ rfl _ 175 rfl 9 3 Tryz.underlying175 _ mb _ M rfl hM ?_; rw [HSZ.out])
          go_ret
          exact ⟨nb, rfl, out, HC1.out.grp, HC1.out.len, HC1.out.lt, HPD.out, HC1.out.old⟩
        · have hcc' : ¬ ((S.length : Nat) : Int) = (c : Int) := by omega
          have hlt2 : c < S.length := by omega
          clear hrow2 hNK2 hpt hdc hfi hle2 hb0 hBw hC1 hsz
          go_wp2_with (at_len; refine wpList_len_own _ rfl _ 175 rfl 9 3 Tryz.underlying175 _ mb _ M rfl hM ?_; rw [HSZ.out])
          exact ⟨⟨nb, S.length, out, rfl, rfl, HC1⟩, by simp [intOf]; omega⟩
end Go.Proofs.YthilnpfpllplaaaGreatDoor
