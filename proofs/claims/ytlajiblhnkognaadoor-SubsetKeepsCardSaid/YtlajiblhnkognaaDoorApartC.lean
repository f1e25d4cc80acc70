/- Lists that share no memory: the call of edenraw.Apart. Condition: each list is a slice in a row of its own, no two in one row. -/
import Derived.Test.YtlajiblhnkognaaDoorApart
namespace Go.Proofs.YtlajiblhnkognaaDoor
open Go.RowKit Apart

set_option maxRecDepth 100000 in
set_option maxHeartbeats 4000000 in
theorem apart_c (w : World) (LA : Option Addr) (m lc : Nat) (R : List (Value × List Int)) (hL : Sl w LA m (R.map (·.1))) (hR : Apart.Rows w R 0 0) (hd : Far R)
    (hLA : ∀ ad, LA = some ad → ¬ Foot R ad.block) (hm : m ≤ 1000000) (hn : ∀ p ∈ R, p.2.length ≤ 1000000) :
    Calls Tryd.prog 23 #[.slice LA m lc] w fun e w' => e = .returned (.bool true) ∧ Keeps (Foot R) w w' := by
  have hl : R.length = m := by simpa using hL.1
  have HL := Lib.hid hl
  clear hl
  have hshape : ∀ (i : Nat) (p : Value × List Int), R[i]? = some p → ∃ A c, p.1 = .slice A p.2.length c := fun i p hp => by
    obtain ⟨A, c, h, _⟩ := own_slice (hR.own i p hp)
    exact ⟨A, c, h⟩
  have HSH := Lib.hid hshape
  clear hshape
  go_enter Tryd.func23, Tryd.ntmps23
  go_wp2_with fail
  go_loopw [3] (fun i wr => ∃ k : Nat, k ≤ m ∧ i = .int .i64 k ∧ Apart.Rows wr R k 0 ∧ Keeps (Foot R) w wr) (fun i _ => m - (intOf i).toNat)
  case atStart => exact ⟨0, Nat.zero_le _, rfl, hR, Keeps.refl _ _⟩
  case round =>
    clear hR
    obtain ⟨k, hk, rfl, hR, hK⟩ := hrel
    by_cases hlt : k < m
    · obtain ⟨⟨v, xs⟩, hp⟩ : ∃ p, R[k]? = some p := ⟨_, List.getElem?_eq_getElem (by rw [HL.out]; exact hlt)⟩
      have hxn : xs.length ≤ 1000000 := hn _ (List.mem_of_getElem? hp)
      have hown : wr.ownsRow 0 3 1 v xs.length _ := hR.own k _ hp
      obtain ⟨A, c, rfl, _, _⟩ := own_slice hown
      obtain ⟨la, u, rfl, hu, hcu⟩ := (hL.keeps hK hLA).at_ hlt
      rw [List.getElem?_map, hp] at hu
      cases hu
      clear hown
      obtain ⟨wo, rfl⟩ : ∃ wo : World, wo = wr := ⟨_, rfl⟩
      have HP := Lib.hid hp
      clear hp
      go_wp2_with fail
      go_loopw [4] (fun i wr => ∃ j : Nat, j ≤ xs.length ∧ i = .int .i64 j ∧ Apart.Rows wr R k j ∧ Keeps (Foot R) w wr) (fun i _ => xs.length - (intOf i).toNat)
      case atStart => exact ⟨0, Nat.zero_le _, rfl, hR, hK⟩
      case round =>
        clear hR hK hcu
        obtain ⟨j, hj, rfl, hR, hK⟩ := hrel
        obtain ⟨la', u, e', hu, hcu⟩ := (hL.keeps hK hLA).at_ hlt
        cases e'
        rw [List.getElem?_map, HP.out] at hu
        cases hu
        by_cases hlj : j < xs.length
        · have hown : wr.ownsRow 0 3 1 (.slice A xs.length c) xs.length _ := hR.own k _ HP.out
          obtain ⟨g, cap, hv, _, hg2⟩ := hown.form (by omega)
          injection hv with hA _ hc
          subst hA hc
          have hlc := len_cont (k := k) (i := k) hj rfl
          obtain ⟨z, hz⟩ : ∃ z, (cont k j k xs)[j]? = some z := ⟨_, List.getElem?_eq_getElem (by omega)⟩
          have hcell : wr.cell? ⟨g, j, none⟩ = some (.int .i64 z) := by rw [hown.cellAt j (by omega), List.getElem?_map, hz]; rfl
          have hfr := hown.frozenAt j
          have hset := rows_set hR hd HP.out hlj
          have hmk : (-2 * (k : Int) - 1) = mk k := rfl
          have R1 := hset.1
          have R2 := hK.trans hset.2 (fun _ _ h => h)
          clear hset hz hlc hown hR hK
          go_wp2_with fail
          exact ⟨⟨j + 1, by omega, by go_num, R1, R2⟩, by simp [intOf]; omega⟩
        · obtain rfl : j = xs.length := by omega
          have R1 := rows_next hR (fun p hp => by rw [HP.out] at hp; cases hp; rfl)
          clear hR
          go_wp2_with fail
          exact ⟨⟨k + 1, by omega, by go_num, R1, hK⟩, by simp [intOf]; omega⟩
    · obtain rfl : k = m := by omega
      clear hlt hk
      obtain ⟨wp, rfl⟩ : ∃ wp : World, wp = wr := ⟨_, rfl⟩
      have hR0 : ∀ (i : Nat) (p : Value × List Int), R[i]? = some p → wp.ownsRow 0 3 1 p.1 p.2.length ((List.replicate p.2.length (mk i)).map (Value.int .i64)) := fun i p hp => by
        have := hR.own i p hp
        rwa [cont_zero, if_pos (by have := (List.getElem?_eq_some_iff.1 hp).1; rw [HL.out] at this; exact this)] at this
      have hw0 : w.heap.size ≤ wp.heap.size := hK.size
      have hfoot : ∀ b, Foot R b → b < wp.heap.size := by
        rintro b ⟨p, hp, hb⟩
        obtain ⟨i, hi⟩ := List.getElem?_of_mem hp
        exact ((hR0 i p hi).lt b hb).2
      have hmk := run_make_row' (P := Tryd.prog) 40 22 (.slice none 0 0) 24 tIntss.und tIntss.info rfl .i64 .i64 k (by omega) (by omega)
      have hgs0 := World.ownsRow_lit (base := 0) (e := 22) (size := 1) wp (madeCells #[.slice none 0 0] k) k (Nat.zero_le _) (by simp only [maxLen]; omega) (by rw [size_madeCells]; simp)
      rw [toList_madeCells_one] at hgs0
      have hG := grown_start (H := wp.heap.size + 1) (w := wp.alloc (.cells (madeCells #[.slice none 0 0] k) 22)) (fun i p hp => (hR0 i p hp).alloc _)
      have hK1 : Keeps (Foot R) w (wp.alloc (.cells (madeCells #[.slice none 0 0] k) 22)) := hK.trans (Keeps.of_pure ((Below.refl _ _).alloc (Nat.le_refl _) _) (Foot R)) (fun _ _ h => h)
      clear hR hR0 hK
      go_wp2_with fail
      clear hmk
      go_loopw [6] (fun i wx => ∃ G : List Value, G.length ≤ k ∧ i = .int .i64 (G.length : Nat) ∧ Grown2 wx (wp.heap.size + 1) R G ∧ wx.ownsRow 0 22 1 (.slice (some ⟨wp.heap.size, 0, none⟩) k k) k (G ++ List.replicate (k - G.length) (.slice none 0 0)) ∧ Keeps (Foot R) w wx ∧ wp.heap.size + 1 ≤ wx.heap.size) (fun i _ => k - (intOf i).toNat)
      case atStart => exact ⟨[], Nat.zero_le _, rfl, hG, by simpa using hgs0, hK1, by simp⟩
      case round =>
        clear hG hK1 hgs0
        obtain ⟨G, hGk, rfl, hG, hgs, hK, hsz⟩ := hrel
        obtain ⟨wx, rfl⟩ : ∃ wx : World, wx = wr := ⟨_, rfl⟩
        by_cases hlt : G.length < k
        · obtain ⟨⟨v, xs⟩, hp⟩ : ∃ p, R[G.length]? = some p := ⟨_, List.getElem?_eq_getElem (by rw [HL.out]; exact hlt)⟩
          have hxn : xs.length ≤ 1000000 := hn _ (List.mem_of_getElem? hp)
          have hown : wx.ownsRow 0 3 1 v xs.length _ := hG.own G.length _ (Nat.le_refl _) hp
          obtain ⟨A, c, rfl, _, _⟩ := own_slice hown
          have hsl := hG.old G.length A c xs hp
          have hform := own_form hown
          have hown0 := hown
          obtain ⟨la, u, rfl, hu, hcu⟩ := (hL.keeps hK hLA).at_ hlt
          rw [List.getElem?_map, hp] at hu
          cases hu
          have HP := Lib.hid hp
          clear hp
          generalize hGL : G.length = gl at hlt hcu hGk
          have HGL := Lib.hid hGL
          clear hGL
          go_wp2_with fail
          go_loopw [7, 8] (fun g j wy => ∃ q : Nat, q ≤ 40 ∧ j = .int .i64 q ∧ wy.ownsRow 0 3 1 g (xs.length + q) ((List.replicate xs.length (mk gl) ++ List.replicate q (mk2 gl)).map (Value.int .i64)) ∧
              (∀ b, g.ownBlock = some b → (Value.slice A xs.length c).ownBlock = some b ∨ wx.heap.size ≤ b) ∧ Sl wy A xs.length ((List.replicate xs.length (mk gl)).map (Value.int .i64)) ∧ Keeps (fun b => (Value.slice A xs.length c).ownBlock = some b) wx wy) (fun _ j _ => 40 - (intOf j).toNat)
          case atStart => exact ⟨0, by omega, rfl, by rw [HGL.out] at hown; simpa using hown, fun b hb => .inl hb, by rw [HGL.out] at hsl; exact hsl, Keeps.refl _ _⟩
          case round =>
            clear hown hsl hcu
            obtain ⟨q, hq, rfl, hown, hblk, hsl, hk⟩ := hrel
            have hs1 := hk.size
            by_cases hq40 : q < 40
            · have hmk : (-2 * (gl : Int) - 2) = mk2 gl := rfl
              go_wp2_with (at_builtin; refine wpList_push2 rfl _ _ _ rfl tInts hown rfl _ 0 rfl rfl rfl (by simp only [maxLen]; omega) (by omega) (Nat.zero_le _) ?_; intro g' cap w3 hown3 hor hlt3)
              rw [rep_snoc] at hown3
              refine ⟨⟨q + 1, by omega, by go_num, hown3, fun b hb => ?_, ?_, ?_⟩, by simp [intOf]; omega⟩
              · obtain rfl : g' = b := by simpa [Value.ownBlock] using hb
                rcases hor with ⟨h1, _⟩ | ⟨h1, _⟩
                · exact hblk _ h1
                · right; omega
              · rcases hor with ⟨h1, h2⟩ | ⟨h1, h2⟩
                · have h3 := hown3
                  rw [List.map_append] at h3
                  exact sl_after hsl hform h3 h2
                · exact hsl.keeps (keeps_new (Keeps.refl (fun _ => False) wr) h2) (fun _ _ h => h)
              · rcases hor with ⟨h1, h2⟩ | ⟨h1, h2⟩
                · exact keeps_row hk h2 (hblk _ h1)
                · exact keeps_new hk h2
            · obtain rfl : q = 40 := by omega
              have hgs' := own_keeps hgs hk (fun g' hg' e => own_ne_own hgs hown0 (by decide) hg' e)
              obtain ⟨GA, gc, rfl, _, _⟩ := own_slice hown
              have hnext := grown_next hG hd hfoot rfl HP.out hk hsz (by rw [HGL.out]; exact hown) hblk (by rw [HGL.out]; exact hsl) gl (.slice GA (xs.length + 40) gc)
              have hst := hgs'.stored gl (.slice GA (xs.length + 40) gc)
              have hset := app_set (G := G) (k := k) (z := Value.slice none 0 0) (u := .slice GA (xs.length + 40) gc) (by rw [HGL.out]; exact hlt)
              rw [HGL.out] at hset
              rw [HGL.out, hset] at hst
              have hcell : ∃ u, wr.cell? ⟨wp.heap.size, gl, none⟩ = some u := by
                rw [hgs'.cellAt gl (by omega)]
                exact ⟨_, List.getElem?_eq_getElem (by rw [hgs'.1]; omega)⟩
              obtain ⟨u, hcell⟩ := hcell
              have hfr := hgs'.frozenAt gl
              have hK' : Keeps (Foot R) w (wr.setCell ⟨wp.heap.size, gl, none⟩ (.slice GA (xs.length + 40) gc)) := by
                refine (hK.trans (hk.mono (O' := Foot R) (fun b _ hb => ⟨_, List.mem_of_getElem? HP.out, hb⟩)) (fun _ _ h => h)).trans (Keeps.of_setCell wr _ _) (fun b hb e => ?_)
                simp at e
                have := hw0
                omega
              have hGl : (G ++ [Value.slice GA (xs.length + 40) gc]).length = gl + 1 := by rw [List.length_append, HGL.out]; rfl
              have S1 := hst.1
              clear hst hset hgs' hown hsl hk hblk hG hgs
              go_wp2_with fail
              refine ⟨⟨G ++ [.slice GA (xs.length + 40) gc], by omega, by rw [hGl]; go_num, hnext, S1, hK', by simp only [World.size_setCell]; omega⟩, by simp [intOf]; omega⟩
        · have hGk' : G.length = k := by omega
          rw [hGk', Nat.sub_self, List.replicate_zero, List.append_nil] at hgs
          have HGK := Lib.hid hGk'
          clear hGk'
          go_wp2_with fail
          clear hlt
          go_loop [9] (fun i => ∃ t : Nat, t ≤ k ∧ i = .int .i64 t) (fun i => k - (intOf i).toNat)
          case atStart => exact ⟨0, Nat.zero_le _, rfl⟩
          case round =>
            obtain ⟨t, htk, rfl⟩ := hrel
            by_cases hlt : t < k
            · obtain ⟨⟨v, xs⟩, hp⟩ : ∃ p, R[t]? = some p := ⟨_, List.getElem?_eq_getElem (by rw [HL.out]; exact hlt)⟩
              have hxn : xs.length ≤ 1000000 := hn _ (List.mem_of_getElem? hp)
              obtain ⟨A, c, hv⟩ := HSH.out t _ hp
              simp only at hv
              subst hv
              obtain ⟨gv, hgv⟩ : ∃ gv, G[t]? = some gv := ⟨_, List.getElem?_eq_getElem (by rw [HGK.out]; exact hlt)⟩
              obtain ⟨GA, gc, rfl, hGs, _⟩ := hG.new t gv _ hgv hp
              simp only at hGs
              have hAs := hG.old t A c xs hp
              obtain ⟨la, u, rfl, hu, hcu⟩ := (hL.keeps hK hLA).at_ hlt
              rw [List.getElem?_map, hp] at hu
              cases hu
              have hgc := hgs.cellAt t (by omega)
              rw [hgv] at hgc
              clear hgv hp
              go_wp2_with fail
              go_loop [11] (fun i => ∃ j : Nat, j ≤ xs.length + 40 ∧ i = .int .i64 j) (fun i => xs.length + 40 - (intOf i).toNat)
              case atStart => exact ⟨0, Nat.zero_le _, rfl⟩
              case round =>
                obtain ⟨j, hj, rfl⟩ := hrel
                by_cases hlj : j < xs.length
                · obtain ⟨ga, a, rfl, hga, hca⟩ := hGs.int_ (show j < xs.length + 40 by omega)
                  obtain ⟨aa, b, rfl, hab, hcb⟩ := hAs.int_ hlj
                  rw [rep_at1 hlj] at hga
                  rw [List.getElem?_replicate, if_pos hlj] at hab
                  cases hga
                  cases hab
                  have hmk : (-2 * (t : Int) - 1) = mk t := rfl
                  go_wp2_with fail
                  exact ⟨⟨j + 1, by omega, by go_num⟩, by simp [intOf]; omega⟩
                · by_cases hlj2 : j < xs.length + 40
                  · obtain ⟨ga, a, rfl, hga, hca⟩ := hGs.int_ hlj2
                    rw [rep_at2 (by omega) hlj2] at hga
                    cases hga
                    have hmk : (-2 * (t : Int) - 2) = mk2 t := rfl
                    go_wp2_with fail
                    exact ⟨⟨j + 1, by omega, by go_num⟩, by simp [intOf]; omega⟩
                  · go_wp2_with fail
                    exact ⟨⟨t + 1, by omega, by go_num⟩, by simp [intOf]; omega⟩
            · go_wp2_with fail
              go_ret
              exact ⟨rfl, hK⟩

end Go.Proofs.YtlajiblhnkognaaDoor
