/- The first of the shortest ways: graph.first, where there is one. Condition: the graph reads from memory. sort.Ints of a list of the call's own: it is sorted in its place. Condition: the length. Which of the numbers below 64 two lists name: plain lists, no program. No condition. What a bag answers to any call, and how the document's sets (rising lists) lie beside the program's (words of bits): plain lists, no program. No condition. slices.Compact of a list of the call's own: what is left is the list with each run told once. Condition: the length. -/
import Derived.Shelf.Slices.CompactI
import Derived.Test.YtedmmmlahpmmoaaGreatDoorV3
import Derived.Test.YtedmmmlahpmmoaaGreatDoorV4
import Derived.Test.YtedmmmlahpmmoaaGreatDoorV6
import Derived.Test.YtedmmmlahpmmoaaGreatDoorV7
import Derived.Test.YtedmmmlahpmmoaaGreatDoorV17
import Derived.Test.YtedmmmlahpmmoaaGreatDoorV19
namespace Go.Proofs.YtedmmmlahpmmoaaGreatDoor
open Go.RowKit RuleP TarjP

theorem values_c (w : World) (a : Option Addr) (len cap : Nat) :
    Calls Tryz.prog 92 #[.slice a len cap] w fun e w' => e = .returned (.func (.func 107) #[] #[.pointer (some ⟨w.heap.size, 0, none⟩)]) ∧ w' = w.alloc (.cells #[.slice a len cap] 22) :=
  callsIn_wide.1 (values_in Fence.wide 3 trivial rfl a len cap w)

set_option maxRecDepth 100000 in
set_option maxHeartbeats 4000000 in
theorem first_c (w : World) (C : Option Addr) (M : Nat) (g : List (List Nat)) (f dd : Nat) (hg : Graph g) (hM : g.length = M) (hf : f < M) (ht : dd < M) (hG : ListAt w C M (g.map ints)) (h8 : M ≤ 8193) (hlen : ∀ u, (g.getD u []).length ≤ 1000000) (hr : Rch g f dd) :
    Calls Tryz.prog 71 #[.slice C M M, .int .i64 (f : Int), .int .i64 (dd : Int)] w fun e w' => ∃ (ga Q cc : Nat) (q : List Nat), e = .returned (.slice (some ⟨ga, 0, none⟩) Q cc) ∧ 0 < Q ∧ Q ≤ M ∧ (f ≠ dd → 2 ≤ Q) ∧ (∀ x ∈ q, x < M) ∧ w'.ownsRow w.heap.size 3 1 (.slice (some ⟨ga, 0, none⟩) Q cc) Q ((ints q).map (Value.int .i64)) ∧ Below w.heap.size w w' := by
  have b1 := (Below.refl w.heap.size w).alloc (Nat.le_refl _) (.cells #[.int .i64 (-1)] 3)
  have hX := sl_one (lit_at w w.heap.size (.int .i64 (-1)) 3 rfl)
  obtain ⟨w1, hw1⟩ : ∃ w1, w.alloc (.cells #[.int .i64 (-1)] 3) = w1 := ⟨_, rfl⟩
  rw [hw1] at b1 hX
  have HRP := Lib.hid (repeat_e w1 _ 1 (-1) hX M (by omega) (by omega))
  have HW1 := Lib.hid hw1
  have B1 := Lib.hid b1
  have HGW := Lib.hid hG
  have HGR := Lib.hid (And.intro hg hM)
  have HLEN := Lib.hid hlen
  have HRC := Lib.hid hr
  have HBG := Lib.hid (FirstAt.begin (g := g) (f := f) (by omega))
  rw [hM] at HBG
  have k1 : (f : Int) < (M : Int) := by omega
  have k2 : (0 : Int) ≤ (f : Int) := by omega
  have k3 : (dd : Int) < (M : Int) := by omega
  have k4 : (0 : Int) ≤ (dd : Int) := by omega
  clear hG hg hM hlen hr b1 hX hw1
  go_enter Tryz.func71, Tryz.ntmps71
  go_wp2_with fail
  rw [HW1.out]
  refine (HRP.out).mono ?_
  rintro e w2 ⟨a, ha, rfl, ho, hb⟩
  have cf : w2.cell? ⟨a, f, none⟩ = some (.int .i64 (-1)) := by rw [ho.cellAt f (by omega), List.getElem?_map, List.getElem?_replicate, if_pos hf]; rfl
  have ff := ho.frozenAt f
  have B2 := Lib.hid (B1.out.trans (hb.mono B1.out.size))
  have hst := (ho.stored f (.int .i64 (f : Int))).1
  have e3 : ((List.replicate M (-1 : Int)).map (Value.int .i64)).set f (.int .i64 (f : Int)) = ((List.replicate M (-1 : Int)).set f (f : Int)).map (Value.int .i64) := by rw [List.map_set]
  rw [e3] at hst
  have hal := (ho.lt a rfl).2
  have haw : w.heap.size ≤ a := Nat.le_trans B1.out.size ha
  have hks := Keeps.of_setCell w2 ⟨a, f, none⟩ (.int .i64 (f : Int))
  have bb := B2.out.trans (hks.below B2.out.size (fun b hb => by rw [show b = a from hb]; exact haw))
  have hs3 : (w2.setCell ⟨a, f, none⟩ (.int .i64 (f : Int))).heap.size = w2.heap.size := by simp
  obtain ⟨w3, hw3⟩ : ∃ w3, w2.setCell ⟨a, f, none⟩ (.int .i64 (f : Int)) = w3 := ⟨_, rfl⟩
  rw [hw3] at hst bb hs3
  obtain ⟨B, hB⟩ : ∃ B, w3.heap.size = B := ⟨_, rfl⟩
  have haB : a < B := by omega
  have HW3 := Lib.hid hw3
  have HO3 := Lib.hid (own_base hst B1.out.size)
  have BB3 := Lib.hid bb
  have hlq := World.ownsRow_lit (base := B) (e := 3) (size := 1) w3 #[.int .i64 (f : Int)] 1 (by omega) (by decide) rfl
  have bq := (Below.refl w3.heap.size w3).alloc (Nat.le_refl _) (.cells #[.int .i64 (f : Int)] 3)
  have hs4 : B ≤ (w3.alloc (.cells #[.int .i64 (f : Int)] 3)).heap.size := by simp; omega
  obtain ⟨w4, hw4⟩ : ∃ w4, w3.alloc (.cells #[.int .i64 (f : Int)] 3) = w4 := ⟨_, rfl⟩
  rw [hw4] at hlq bq hs4
  have HW4 := Lib.hid hw4
  have HO4 := Lib.hid (own_below HO3.out bq)
  have BB4 := Lib.hid (BB3.out.trans (bq.mono BB3.out.size))
  have HQ4 : Hid (w4.ownsRow B 3 1 (.slice (some ⟨w3.heap.size, 0, none⟩) 1 1) [f].length ((ints [f]).map (Value.int .i64))) := Lib.hid hlq
  have HS4 := Lib.hid hs4
  have HAB := Lib.hid (And.intro haB haw)
  clear hlq bq hw4 hw3 hs3 bb hks e3 hst hb ho hs4 ha hB hal haw
  go_upto_region 3 with fail
  rw [HW3.out]
  clear cf ff
  go_wp2_with fail
  rw [HW4.out]
  go_loopw [8, 9] (fun qv iv wl => ∃ (i : Nat) (q : List Nat) (came : List Int), iv = .int .i64 (i : Int) ∧ Hid (FirstAt g f came q i) ∧ Hid (wl.ownsRow B 3 1 qv q.length ((ints q).map (Value.int .i64))) ∧ Hid (wl.ownsRow w.heap.size 3 1 (.slice (some ⟨a, 0, none⟩) M M) M (came.map (Value.int .i64))) ∧ Hid (Below w.heap.size w wl) ∧ Hid (B ≤ wl.heap.size)) (fun _ iv _ => M - (intOf iv).toNat)
  case atStart => exact ⟨0, [f], _, rfl, HBG, HQ4, HO4, BB4, HS4⟩
  case round =>
    clear HQ4 HO4 BB4 HS4
    obtain ⟨i, q, came, rfl, HN, HQ, HS, BB, HBS⟩ := hrel
    obtain ⟨v0, rfl⟩ : ∃ v0, v0 = wr := ⟨_, rfl⟩
    obtain ⟨Aq, cq, hqv, _, _⟩ := ownN_slice HQ.out
    subst hqv
    have hql := HN.out.qlen
    rw [HGR.out.2] at hql
    obtain ⟨Q, hQ⟩ : ∃ Q, q.length = Q := ⟨_, rfl⟩
    rw [hQ] at HQ hql ⊢
    have HQL := Lib.hid hQ
    have hi0 : (0 : Int) ≤ (i : Int) := by omega
    obtain ⟨z, hz⟩ : ∃ z, came[dd]? = some z := ⟨_, List.getElem?_eq_getElem (by rw [HN.out.len, HGR.out.2]; exact ht)⟩
    have hzd : came.getD dd (-1) = z := by rw [List.getD_eq_getElem?_getD, hz]; rfl
    have ct : v0.cell? ⟨a, dd, none⟩ = some (.int .i64 z) := by rw [HS.out.cellAt dd (by omega), List.getElem?_map, hz]; rfl
    have hmem := HN.out.mem dd (by rw [HGR.out.2]; exact ht)
    rw [hzd] at hmem
    have HMEM := Lib.hid hmem
    clear hz hzd hmem
    by_cases hc : i < Q ∧ z < 0
    · obtain ⟨hlt, hz0⟩ := hc
      have hlt' : (i : Int) < (Q : Int) := by omega
      obtain ⟨u, hu⟩ : ∃ u, q[i]? = some u := ⟨_, List.getElem?_eq_getElem (by omega)⟩
      have hum : u ∈ q := List.mem_of_getElem? hu
      have huM : u < M := by have := HN.out.lt u hum; rw [HGR.out.2] at this; exact this
      obtain ⟨gq, hgq, cu⟩ := ownN_cell HQ.out (j := i) (u := .int .i64 (u : Int)) (by rw [ints_map, List.getElem?_map, hu]; rfl)
      subst hgq
      have k5 : (u : Int) < (M : Int) := by omega
      have k6 : (0 : Int) ≤ (u : Int) := by omega
      obtain ⟨adg, P, L, cr, rfl, hcr0, hL, hsr0⟩ := graph_row HGW.out huM
      have hcr := cell_later BB.out hcr0
      have hLb := HLEN.out u
      rw [hL] at hLb
      have HL := Lib.hid hL
      have HU := Lib.hid hu
      have HVA := Lib.hid (values_c v0 P L cr)
      have b5 := (Below.refl v0.heap.size v0).alloc (Nat.le_refl _) (.cells #[.slice P L cr] 22)
      have HSO := Lib.hid (sortedVals_c (v0.alloc (.cells #[.slice P L cr] 22)) v0.heap.size P L cr (ints (g.getD u [])) ((hsr0.below BB.out).below b5) (by omega) (by simp) (lit_at v0 _ _ _ rfl))
      obtain ⟨S, hS1, hS2, hS3⟩ := sort_ints (g.getD u [])
      rw [hS1] at HSO
      have HSM := Lib.hid (And.intro hS2 hS3)
      have B5 := Lib.hid b5
      clear hcr0 hsr0 hL hu hum hql hQ hS1 hS2 hS3 b5
      go_wp2_with fail
      refine (HVA.out).mono ?_
      rintro e w5 ⟨rfl, rfl⟩
      go_wp2_with fail
      refine (HSO.out).mono ?_
      rintro e w6 ⟨SC, sc, rfl, hso, hb6⟩
      have B6 := Lib.hid (B5.out.trans (hb6.mono B5.out.size))
      have HQ6 := Lib.hid (own_below HQ.out B6.out)
      have HS6 := Lib.hid (own_below HS.out B6.out)
      have BB6 := Lib.hid (BB.out.trans (B6.out.mono BB.out.size))
      have HBS6 := Lib.hid (Nat.le_trans HBS.out B6.out.size)
      have HD6 : Hid (∀ b, (Value.slice SC L sc).ownBlock = some b → a < b ∧ ∀ b', (Value.slice (some ⟨gq, 0, none⟩) Q cq).ownBlock = some b' → b' ≠ b) := Lib.hid (fun b hb => by
        have h1 := (hso.lt b hb).1
        have h2 := B5.out.size
        have h3 := HAB.out.1
        have h4 := HBS.out
        refine ⟨by omega, fun b' hb' e => ?_⟩
        have h5 := (HQ.out.lt b' hb').2
        omega)
      have HSO6 := Lib.hid (own_base hso (Nat.le_refl _))
      clear hso hb6 HVA HSO hcr cu ct
      go_wp2_with fail
      go_loopw [8, 49] (fun qv jv wl => ∃ (j : Nat) (q : List Nat) (came : List Int), j ≤ L ∧ jv = .int .i64 (j : Int) ∧ Hid (FirstAt g f came q i) ∧ Hid (q[i]? = some u ∧ ∀ t ∈ S.take j, t ∈ q) ∧ Hid (wl.ownsRow B 3 1 qv q.length ((ints q).map (Value.int .i64))) ∧ Hid (wl.ownsRow w.heap.size 3 1 (.slice (some ⟨a, 0, none⟩) M M) M (came.map (Value.int .i64))) ∧ Hid (wl.ownsRow (v0.alloc (.cells #[.slice P L cr] 22)).heap.size 3 1 (.slice SC L sc) L ((ints S).map (Value.int .i64))) ∧ Hid (∀ b, (Value.slice SC L sc).ownBlock = some b → a < b ∧ ∀ b', qv.ownBlock = some b' → b' ≠ b) ∧ Hid (Below w.heap.size w wl) ∧ Hid (B ≤ wl.heap.size)) (fun _ jv _ => L - (intOf jv).toNat)
      case atStart => exact ⟨0, q, came, Nat.zero_le _, rfl, HN, Lib.hid ⟨HU.out, fun t ht => by simp at ht⟩, Lib.hid (by rw [HQL.out]; exact HQ6.out), HS6, HSO6, HD6, BB6, HBS6⟩
      case round =>
        clear HN HQ HS BB HQL HQ6 HS6 HSO6 HD6 BB6 HBS6 HMEM HBS
        obtain ⟨j, q, came, hj, rfl, HN, HI, HQ, HS, HSO, HD, BB, HBS⟩ := hrel
        by_cases hlt2 : j < L
        · have hlt2' : (j : Int) < (L : Int) := by omega
          have hj0 : (0 : Int) ≤ (j : Int) := by omega
          have hsr := Sl.of_own HSO.out
          rw [ints_map] at hsr
          obtain ⟨pad, t, rfl, hT, hct⟩ := hsr.word_ hlt2
          have htu : t ∈ g.getD u [] := (HSM.out.2 t).1 (List.mem_of_getElem? hT)
          have htM : t < M := by
            have h1 := HGR.out.1 u t htu
            rw [HGR.out.2] at h1
            exact h1
          have htk : S.take (j + 1) = S.take j ++ [t] := by rw [List.take_add_one, hT]; rfl
          obtain ⟨y, hy⟩ : ∃ y, came[t]? = some y := ⟨_, List.getElem?_eq_getElem (by rw [HN.out.len, HGR.out.2]; exact htM)⟩
          have hyd : came.getD t (-1) = y := by rw [List.getD_eq_getElem?_getD, hy]; rfl
          have cb : wr.cell? ⟨a, t, none⟩ = some (.int .i64 y) := by rw [HS.out.cellAt t (by omega), List.getElem?_map, hy]; rfl
          have fb := HS.out.frozenAt t
          have k8 : (t : Int) < (M : Int) := by omega
          have k9 : (0 : Int) ≤ (t : Int) := by omega
          have hql := HN.out.qlen
          rw [HGR.out.2] at hql
          by_cases hy0 : y < 0
          · have hN2 := HN.out.push (u := u) (List.mem_of_getElem? HI.out.1) (by rw [HGR.out.2]; exact htM) (by rw [hyd]; exact hy0)
            have hI2 : (q ++ [t])[i]? = some u ∧ ∀ x ∈ S.take (j + 1), x ∈ q ++ [t] := by
              refine ⟨by rw [List.getElem?_append_left (List.getElem?_eq_some_iff.1 HI.out.1).1]; exact HI.out.1, fun x hx => ?_⟩
              rw [htk] at hx
              rcases List.mem_append.1 hx with hx | hx
              · exact List.mem_append_left _ (HI.out.2 x hx)
              · exact List.mem_append_right _ hx
            have ho2 := (HS.out.stored t (.int .i64 (u : Int))).1
            have e3 : (came.map (Value.int .i64)).set t (.int .i64 (u : Int)) = (came.set t (u : Int)).map (Value.int .i64) := by rw [List.map_set]
            rw [e3] at ho2
            have hks := Keeps.of_setCell wr ⟨a, t, none⟩ (.int .i64 (u : Int))
            have hq2 := own_keeps HQ.out hks (fun b' hb' hO' => by
              have h1 := (HQ.out.lt b' hb').1
              have h2 := HAB.out.1
              have h3 : b' = a := hO'
              omega)
            have hs2 := own_keeps HSO.out hks (fun b' hb' hO' => by
              have h1 := (HD.out b' hb').1
              have h3 : b' = a := hO'
              omega)
            have bw2 := BB.out.trans (hks.below BB.out.size (fun b' hb' => by rw [show b' = a from hb']; exact HAB.out.2))
            have hz5 : (wr.setCell ⟨a, t, none⟩ (.int .i64 (u : Int))).heap.size = wr.heap.size := by simp
            obtain ⟨w7, hw7⟩ : ∃ w7, wr.setCell ⟨a, t, none⟩ (.int .i64 (u : Int)) = w7 := ⟨_, rfl⟩
            rw [hw7] at ho2 hq2 hs2 bw2 hz5
            have HW7 := Lib.hid hw7
            have HBS7 : Hid (B ≤ w7.heap.size) := Lib.hid (by rw [hz5]; exact HBS.out)
            have hBw := bw2.size
            have hBw2 := HBS7.out
            have HO7 := Lib.hid ho2
            have HQ7 := Lib.hid hq2
            have HSO7 := Lib.hid hs2
            have BW7 := Lib.hid bw2
            have HN2 := Lib.hid hN2
            have HI2 := Lib.hid hI2
            clear hN2 hI2 ho2 e3 hks hq2 hs2 bw2 hw7 hz5 hy hyd hT htk hsr htu
            go_upto_region 13 with fail
            rw [HW7.out]
            go_wp2_with (at_builtin
                         refine wpList_push_q rfl _ _ _ rfl tInts (HQ7.out.alloc _) rfl ⟨w7.heap.size, 0, none⟩ 1 rfl (.int .i64 (t : Int)) (by simp) rfl (by simp only [maxLen]; omega) (by omega) (by rw [World.size_alloc]; omega) ?_
                         intro g3 cap3 w8 hown3 hor3 hlt3
                         obtain ⟨hk3, hg3⟩ := pushS (w := w7) ((Below.refl _ _).alloc (Nat.le_refl _) _) hor3
                         clear hor3)
            have e : (ints q).map (Value.int .i64) ++ [.int .i64 (t : Int)] = (ints (q ++ [t])).map (Value.int .i64) := by simp [ints]
            have e2 : q.length + 1 = (q ++ [t]).length := by simp
            rw [e] at hown3
            have HQ8 : Hid (w8.ownsRow B 3 1 (.slice (some ⟨g3, 0, none⟩) (q.length + 1) cap3) (q ++ [t]).length ((ints (q ++ [t])).map (Value.int .i64))) := Lib.hid (by rw [← e2]; exact hown3)
            have HO8 := Lib.hid (own_keeps HO7.out hk3 (fun b' hb' hO' => by
              have h1 := (HQ7.out.lt b' hO').1
              have h2 := HAB.out.1
              have h3 : a = b' := Option.some.inj hb'
              omega))
            have HSO8 := Lib.hid (own_keeps HSO7.out hk3 (fun b' hb' hO' => (HD.out b' hb').2 b' hO' rfl))
            have HD8 : Hid (∀ b, (Value.slice (some pad) L sc).ownBlock = some b → a < b ∧ ∀ b', (Value.slice (some ⟨g3, 0, none⟩) (q.length + 1) cap3).ownBlock = some b' → b' ≠ b) := Lib.hid (fun b hb => ⟨(HD.out b hb).1, fun b' hb' e => by
              have h1 : g3 = b' := Option.some.inj hb'
              subst h1
              rcases hg3 with h2 | h2
              · exact (HD.out b hb).2 g3 h2 e
              · have h3 := (HSO7.out.lt b hb).2
                omega⟩)
            have B8 := Lib.hid (BW7.out.trans (hk3.below hBw (fun b' hb' => by
              have h1 := (HQ7.out.lt b' hb').1
              have h2 := HAB.out
              omega)))
            have HBS8 := Lib.hid (Nat.le_trans HBS7.out (show w7.heap.size ≤ w8.heap.size from hk3.size))
            clear hown3 e e2 hg3
            exact ⟨⟨j + 1, q ++ [t], _, by omega, by go_num, HN2, HI2, HQ8, HO8, HSO8, HD8, B8, HBS8⟩, by simp [intOf]; omega⟩
          · have HI2 := Lib.hid (show q[i]? = some u ∧ ∀ x ∈ S.take (j + 1), x ∈ q from ⟨HI.out.1, fun x hx => by
              rw [htk] at hx
              rcases List.mem_append.1 hx with hx | hx
              · exact HI.out.2 x hx
              · rw [List.mem_singleton.1 hx]
                exact (HN.out.mem t (by rw [HGR.out.2]; exact htM)).1 (by rw [hyd]; omega)⟩)
            clear hy hyd hT htk hsr hql htu
            go_wp2_with fail
            exact ⟨⟨j + 1, q, came, by omega, by go_num, HN, HI2, HQ, HS, HSO, HD, BB, HBS⟩, by simp [intOf]; omega⟩
        · have hlt2' : ¬ (j : Int) < (L : Int) := by omega
          have hN2 := HN.out.next HI.out.1 (fun t ht => HI.out.2 t (by rw [List.take_of_length_le (by have h1 := HL.out; have h2 := HSM.out.1; omega)]; exact (HSM.out.2 t).2 ht))
          have HN2 := Lib.hid hN2
          have hiM : i < M := by
            have h1 := (List.getElem?_eq_some_iff.1 HI.out.1).1
            have h2 := HN.out.qlen
            rw [HGR.out.2] at h2
            omega
          clear hN2
          go_wp2_with fail
          exact ⟨⟨i + 1, q, came, by go_num, HN2, HQ, HS, BB, HBS⟩, by simp [intOf]; omega⟩
    · have hto : dd ∈ q := by
        rcases Nat.lt_or_ge i Q with h | h
        · exact HMEM.out.1 (by by_cases h2 : z < 0; exact absurd ⟨h, h2⟩ hc; omega)
        · exact HN.out.reached (by omega) HRC.out
      have hz0 : ¬ z < 0 := by have := HMEM.out.2 hto; omega
      have HTO := Lib.hid hto
      have hlw := World.ownsRow_lit (base := B) (e := 3) (size := 1) v0 #[.int .i64 (dd : Int)] 1 HBS.out (by decide) rfl
      have bw := (Below.refl v0.heap.size v0).alloc (Nat.le_refl _) (.cells #[.int .i64 (dd : Int)] 3)
      obtain ⟨v1, hv1⟩ : ∃ v1, v0.alloc (.cells #[.int .i64 (dd : Int)] 3) = v1 := ⟨_, rfl⟩
      rw [hv1] at hlw bw
      have HV1 := Lib.hid hv1
      have HO1 := Lib.hid (own_below HS.out bw)
      have BB1 := Lib.hid (BB.out.trans (bw.mono BB.out.size))
      have HW1' : Hid (v1.ownsRow B 3 1 (.slice (some ⟨v0.heap.size, 0, none⟩) 1 1) [dd].length ((ints [dd]).map (Value.int .i64))) := Lib.hid hlw
      have HBS1 := Lib.hid (Nat.le_trans HBS.out bw.size)
      have HP1 := Lib.hid (show 0 < [dd].length ∧ [dd].length + posN q dd ≤ M ∧ (dd = dd ∨ 2 ≤ [dd].length) ∧ ∀ y ∈ [dd], y < M by
        have h1 := (List.getElem?_eq_some_iff.1 (posN_get hto)).1
        refine ⟨by simp, by simp; omega, .inl rfl, fun y hy => by rw [List.mem_singleton.1 hy]; exact ht⟩)
      clear hto hlw bw hv1 HMEM hql hQ
      by_cases hlt : i < Q
      all_goals
        first
          | have hlt' : (i : Int) < (Q : Int) := by omega
          | have hlt' : ¬ (i : Int) < (Q : Int) := by omega
        clear hc hlt
        go_wp2_with fail
        rw [HV1.out]
        clear ct
        go_loopw [13, 14] (fun yv xv wl => ∃ (x : Nat) (way : List Nat), xv = .int .i64 (x : Int) ∧ Hid (x ∈ q) ∧ Hid (0 < way.length ∧ way.length + posN q x ≤ M ∧ (x = dd ∨ 2 ≤ way.length) ∧ ∀ y ∈ way, y < M) ∧ Hid (wl.ownsRow B 3 1 yv way.length ((ints way).map (Value.int .i64))) ∧ Hid (wl.ownsRow w.heap.size 3 1 (.slice (some ⟨a, 0, none⟩) M M) M (came.map (Value.int .i64))) ∧ Hid (Below w.heap.size w wl) ∧ Hid (B ≤ wl.heap.size)) (fun _ xv _ => posN q (intOf xv).toNat)
        case atStart => exact ⟨dd, [dd], rfl, HTO, Lib.hid ⟨HP1.out.1, HP1.out.2.1, .inl rfl, HP1.out.2.2.2⟩, HW1', HO1, BB1, HBS1⟩
        case round =>
          clear HO1 BB1 HW1' HBS1 HP1 HS BB HBS HQ
          obtain ⟨x, way, rfl, HX, HP, HWY, HS, BB, HBS⟩ := hrel
          obtain ⟨Aw, cw, hwv, _, _⟩ := ownN_slice HWY.out
          subst hwv
          by_cases hxf : x = f
          · have hpf : (x : Int) = (f : Int) := by omega
            have HXF := Lib.hid hxf
            obtain ⟨gw, cap', hCe, _⟩ := HWY.out.form HP.out.1
            cases hCe
            have HREV := Lib.hid (reverse_c wr B gw way.length cw (ints way) HWY.out (by have := HP.out.2.1; omega))
            subst hxf
            clear hpf
            go_wp2_with fail
            refine (HREV.out).mono ?_
            rintro e w9 ⟨rfl, ho9, hk9⟩
            have B9 := Lib.hid (BB.out.trans (hk9.below BB.out.size (fun b' hb' => by
              have h1 := (HWY.out.lt gw rfl).1
              have h2 := HAB.out
              have h3 : b' = gw := hb'
              omega)))
            have HO9 : Hid (w9.ownsRow w.heap.size 3 1 (.slice (some ⟨gw, 0, none⟩) way.length cw) way.length ((ints way.reverse).map (Value.int .i64))) := Lib.hid (by
              rw [show ints way.reverse = (ints way).reverse by unfold ints; rw [List.map_reverse]]
              exact own_base ho9 (by have := HAB.out; omega))
            clear ho9 hk9
            go_wp2_with fail
            exact bodyPost_ret (v := .slice (some ⟨gw, 0, none⟩) way.length cw) (by simp [results, Tryz.results71, go_sem]) rfl ⟨gw, way.length, cw, way.reverse, rfl, HP.out.1, by have := HP.out.2.1; omega, fun h => HP.out.2.2.1.resolve_left h, fun y hy => HP.out.2.2.2 y (List.mem_reverse.1 hy), HO9.out, B9.out⟩
          · have hpf : ¬ (x : Int) = (f : Int) := by omega
            obtain ⟨y, hyq, hcy, hpos⟩ := HN.out.back HX.out hxf
            have hxM : x < M := by have := HN.out.lt x HX.out; rw [HGR.out.2] at this; exact this
            have hyM : y < M := by have := HN.out.lt y hyq; rw [HGR.out.2] at this; exact this
            have cx : wr.cell? ⟨a, x, none⟩ = some (.int .i64 (y : Int)) := by rw [HS.out.cellAt x (by omega), List.getElem?_map, hcy]; rfl
            have k8 : (x : Int) < (M : Int) := by omega
            have k9 : (0 : Int) ≤ (x : Int) := by omega
            have hwl := HP.out.2.1
            have hBw := BB.out.size
            have hBw2 := HBS.out
            have HY := Lib.hid (And.intro hyq (And.intro hpos hyM))
            clear hcy hyq hpos hyM
            go_wp2_with (at_builtin
                         refine wpList_push_q rfl _ _ _ rfl tInts (HWY.out.alloc _) rfl ⟨wr.heap.size, 0, none⟩ 1 rfl (.int .i64 (y : Int)) (by simp) rfl (by simp only [maxLen]; omega) (by omega) (by rw [World.size_alloc]; omega) ?_
                         intro g3 cap3 w8 hown3 hor3 hlt3
                         obtain ⟨hk3, hg3⟩ := pushS (w := wr) ((Below.refl _ _).alloc (Nat.le_refl _) _) hor3
                         clear hor3)
            have e : (ints way).map (Value.int .i64) ++ [.int .i64 (y : Int)] = (ints (way ++ [y])).map (Value.int .i64) := by simp [ints]
            have e2 : way.length + 1 = (way ++ [y]).length := by simp
            rw [e] at hown3
            have HQ8 : Hid (w8.ownsRow B 3 1 (.slice (some ⟨g3, 0, none⟩) (way.length + 1) cap3) (way ++ [y]).length ((ints (way ++ [y])).map (Value.int .i64))) := Lib.hid (by rw [← e2]; exact hown3)
            have HO8 := Lib.hid (own_keeps HS.out hk3 (fun b' hb' hO' => by
              have h1 := (HWY.out.lt b' hO').1
              have h2 := HAB.out.1
              have h3 : a = b' := Option.some.inj hb'
              omega))
            have B8 := Lib.hid (BB.out.trans (hk3.below hBw (fun b' hb' => by
              have h1 := (HWY.out.lt b' hb').1
              have h2 := HAB.out
              omega)))
            have HBS8 := Lib.hid (Nat.le_trans HBS.out (show wr.heap.size ≤ w8.heap.size from hk3.size))
            have HP8 := Lib.hid (show 0 < (way ++ [y]).length ∧ (way ++ [y]).length + posN q y ≤ M ∧ (y = dd ∨ 2 ≤ (way ++ [y]).length) ∧ ∀ t ∈ way ++ [y], t < M by
              have h1 := HY.out.2.1
              have h2 := HP.out.1
              refine ⟨by simp, by simp; omega, .inr (by simp; omega), fun t ht => ?_⟩
              rcases List.mem_append.1 ht with ht | ht
              · exact HP.out.2.2.2 t ht
              · rw [List.mem_singleton.1 ht]; exact HY.out.2.2)
            have hpos := HY.out.2.1
            clear hown3 e e2 hg3
            exact ⟨⟨y, way ++ [y], rfl, Lib.hid HY.out.1, HP8, HQ8, HO8, B8, HBS8⟩, by simp [intOf]; exact hpos⟩
end Go.Proofs.YtedmmmlahpmmoaaGreatDoor

namespace Go.Proofs.YtedmmmlahpmmoaaGreatDoor
open Go.RowKit Go.Shelf Go.Sort Go.Maps

theorem sortOwn_c (w : World) (H n cap : Nat) (C : Option Addr) (xs : List Int) (hr : w.ownsRow H 3 1 (.slice C n cap) n (xs.map (Value.int .i64))) (hn : n < 4611686018427387904) :
    Calls Tryz.prog 45 #[.slice C n cap] w fun e w' => e = .returned (.tuple #[]) ∧ w'.ownsRow H 3 1 (.slice C n cap) n ((xs.mergeSort fun x y => decide (x ≤ y)).map (Value.int .i64)) ∧ w.grownBy w' (Value.slice C n cap).ownBlock := by
  have hl : xs.length = n := by simpa using hr.1
  rcases hr.2 with ⟨hv, hz0⟩ | ⟨gb, cap2, cur, hv, hbase, hgb, r1, r2, r3, r4⟩
  · cases hv
    have hss : xs = [] := List.eq_nil_of_length_eq_zero hl
    subst hss
    refine (sortNil_c w none 0).mono ?_
    rintro e w' ⟨rfl, rfl⟩
    exact ⟨rfl, by rw [List.mergeSort_nil]; exact hr, World.grownBy.refl _ _⟩
  · cases hv
    subst hl
    have hH : Holds (Value.int .i64) w gb 0 xs.toArray := holds_of_blockI hgb (by simpa using r4)
    have hgl : gb < w.heap.size := (Array.getElem?_eq_some_iff.1 hgb).1
    refine (sort_c w gb 0 cap xs hH hgl hn).mono ?_
    rintro e w' ⟨rfl, nn, os, rfl⟩
    exact ⟨rfl, ownsRow_sortedI (ts := xs.mergeSort fun x y => decide (x ≤ y)) (n := nn) (os := os) (List.length_mergeSort _) hbase hgb r1 r2 r3, grownBy_sortedI _⟩
end Go.Proofs.YtedmmmlahpmmoaaGreatDoor

namespace Go.Proofs.YtedmmmlahpmmoaaGreatDoor
namespace BagP

theorem idx_get {S : List (List Nat)} {l : List Nat} (h : l ∈ S) : S[S.idxOf l]? = some l := by
  have h2 := List.idxOf_lt_length_of_mem h
  rw [List.getElem?_eq_getElem h2]; simp
end BagP
end Go.Proofs.YtedmmmlahpmmoaaGreatDoor

namespace Go.Proofs.YtedmmmlahpmmoaaGreatDoor
open BagP RuleP
namespace BagR

/-- Of the first i numbers those that differ from the one ahead. -/
def dedTo (l : List Int) : Nat → List Int
  | 0 => []
  | i + 1 => dedTo l i ++ if i = 0 ∨ l.getD i 0 ≠ l.getD (i - 1) 0 then [l.getD i 0] else []
theorem dedTo_succ (l : List Int) (i : Nat) : dedTo l (i + 1) = dedTo l i ++ if i = 0 ∨ l.getD i 0 ≠ l.getD (i - 1) 0 then [l.getD i 0] else [] := rfl
theorem dedTo_len (l : List Int) : ∀ i, (dedTo l i).length ≤ i
  | 0 => Nat.le_refl _
  | i + 1 => by
    rw [dedTo_succ, List.length_append]
    have := dedTo_len l i
    split <;> simp <;> omega
theorem getD_in {l : List Int} {i : Nat} (h : i < l.length) : l[i]? = some (l.getD i 0) := by rw [List.getD_eq_getElem?_getD, List.getElem?_eq_getElem h]; rfl
theorem dedTo_mem {l : List Int} : ∀ {i : Nat}, i ≤ l.length → ∀ x, x ∈ dedTo l i ↔ x ∈ l.take i
  | 0, _, x => by simp [dedTo]
  | i + 1, h, x => by
    rw [dedTo_succ, List.take_add_one, getD_in (by omega), List.mem_append, List.mem_append, dedTo_mem (by omega)]
    by_cases hc : i = 0 ∨ l.getD i 0 ≠ l.getD (i - 1) 0
    · rw [if_pos hc]; simp
    · rw [if_neg hc]
      have h1 : l.getD i 0 = l.getD (i - 1) 0 := Classical.not_not.1 (fun e => hc (.inr e))
      have h0 : 0 < i := Nat.pos_of_ne_zero (fun e => hc (.inl e))
      have hm : l.getD (i - 1) 0 ∈ l.take i := List.mem_take_iff_getElem.2 ⟨i - 1, by omega, by rw [List.getD_eq_getElem?_getD, List.getElem?_eq_getElem (by omega)]; rfl⟩
      constructor
      · rintro (h | h)
        · exact .inl h
        · simp at h
      · rintro (h | h)
        · exact .inl h
        · have e : x = l.getD i 0 := by simpa using h
          rw [e, h1]
          exact .inl hm
theorem dedTo_rise {l : List Int} (hs : l.Pairwise (· ≤ ·)) : ∀ {i : Nat}, i ≤ l.length → (dedTo l i).Pairwise (· < ·) ∧ ∀ x ∈ dedTo l i, 0 < i → x ≤ l.getD (i - 1) 0
  | 0, _ => ⟨List.Pairwise.nil, fun x hx => by simp [dedTo] at hx⟩
  | i + 1, h => by
    obtain ⟨h1, h2⟩ := dedTo_rise hs (i := i) (by omega)
    have hle : ∀ j, j < i → l.getD j 0 ≤ l.getD i 0 := fun j hj => by
      have := List.pairwise_iff_getElem.1 hs j i (by omega) (by omega) hj
      rw [List.getD_eq_getElem?_getD, List.getD_eq_getElem?_getD, List.getElem?_eq_getElem (by omega), List.getElem?_eq_getElem (by omega)]
      exact this
    have hmx : ∀ x ∈ dedTo l i, x ≤ l.getD i 0 := fun x hx => by
      rcases Nat.eq_zero_or_pos i with rfl | h0
      · simp [dedTo] at hx
      · exact Int.le_trans (h2 x hx h0) (hle (i - 1) (by omega))
    rw [dedTo_succ]
    by_cases hc : i = 0 ∨ l.getD i 0 ≠ l.getD (i - 1) 0
    · rw [if_pos hc]
      refine ⟨List.pairwise_append.2 ⟨h1, List.pairwise_singleton .., fun x hx y hy => ?_⟩, fun x hx _ => ?_⟩
      · rw [List.mem_singleton.1 hy]
        rcases Nat.eq_zero_or_pos i with rfl | h0
        · simp [dedTo] at hx
        · have hne : l.getD i 0 ≠ l.getD (i - 1) 0 := hc.resolve_left (by omega)
          have a1 := h2 x hx h0
          have a2 := hle (i - 1) (by omega)
          omega
      · rcases List.mem_append.1 hx with hx | hx
        · exact hmx x hx
        · rw [List.mem_singleton.1 hx]; exact Int.le_refl _
    · rw [if_neg hc, List.append_nil]
      exact ⟨h1, fun x hx _ => hmx x hx⟩
/-- Two rising lists that name the same numbers are one. -/
theorem rise_ext : ∀ {a b : List Int}, a.Pairwise (· < ·) → b.Pairwise (· < ·) → (∀ x, x ∈ a ↔ x ∈ b) → a = b
  | [], [], _, _, _ => rfl
  | [], y :: _, _, _, h => absurd ((h y).2 (List.mem_cons_self ..)) (by simp)
  | x :: _, [], _, _, h => absurd ((h x).1 (List.mem_cons_self ..)) (by simp)
  | x :: a, y :: b, ha, hb, h => by
    rw [List.pairwise_cons] at ha hb
    have e : x = y := by
      rcases List.mem_cons.1 ((h x).1 (List.mem_cons_self ..)) with e | hx
      · exact e
      · rcases List.mem_cons.1 ((h y).2 (List.mem_cons_self ..)) with e | hy
        · exact e.symm
        · have := ha.1 y hy
          have := hb.1 x hx
          omega
    subst e
    rw [rise_ext ha.2 hb.2 fun z => ?_]
    constructor
    · intro hz
      rcases List.mem_cons.1 ((h z).1 (List.mem_cons_of_mem _ hz)) with e | hz'
      · have := ha.1 z hz; omega
      · exact hz'
    · intro hz
      rcases List.mem_cons.1 ((h z).2 (List.mem_cons_of_mem _ hz)) with e | hz'
      · have := hb.1 z hz; omega
      · exact hz'
/-- A set's words: as many as there must be, no bit of n or beyond. -/
structure Good (n : Nat) (l : List Nat) : Prop where
  len : l.length = wlen n
  ok : Ok64 l
  top : ∀ y, n ≤ y → BagP.hasB l y = false
theorem good_bits {n : Nat} {xs : List Int} (hx : ∀ x ∈ xs, 0 ≤ x ∧ x < (n : Int)) : Good n (bitsOf n xs) where
  len := length_bitsOf n xs
  ok := ok_bitsOf n xs
  top := fun y hy => by
    rw [has_bitsOf hx]
    exact decide_eq_false fun h => by have := (hx _ h).2; omega
/-! ### what is answered -/
abbrev Tl := Option (Nat × List (ByteArray × Int))
def bagS : ByteArray := ⟨#[98, 97, 103]⟩
def outB (n : Nat) (xs : List Int) : Option Nat := xs.findIdx? fun x => decide (x < 0 ∨ (n : Int) ≤ x)
def putL (S : List (List Nat)) (l : List Nat) : (Nat × Bool × Tl) × List (List Nat) :=
  if l ∈ S then ((S.idxOf l, false, none), S) else if 4096 ≤ S.length then ((0, false, some (4, [(bagS, 0)])), S) else ((S.length, true, none), S ++ [l])
def putF (n : Nat) (S : List (List Nat)) (xs : List Int) : (Nat × Bool × Tl) × List (List Nat) :=
  match outB n xs with
  | some i => ((0, false, some (3, [(bagS, (i : Int))])), S)
  | none => putL S (bitsOf n xs)
def inS (S : List (List Nat)) (i : Int) : Prop := 0 ≤ i ∧ i < (S.length : Int)
instance (S : List (List Nat)) (i : Int) : Decidable (inS S i) := inferInstanceAs (Decidable (_ ∧ _))
/-- The sets are kept as they must be. -/
structure GoodS (n : Nat) (S : List (List Nat)) : Prop where
  good : ∀ l ∈ S, Good n l
  nd : S.Nodup
  big : S.length ≤ 4096
theorem GoodS.nil (n : Nat) : GoodS n [] := ⟨fun l hl => by simp at hl, List.nodup_nil, Nat.zero_le _⟩
theorem GoodS.putL {n : Nat} {S : List (List Nat)} (h : GoodS n S) {l : List Nat} (hl : Good n l) : GoodS n (putL S l).2 := by
  unfold BagR.putL
  by_cases h1 : l ∈ S
  · rw [if_pos h1]; exact h
  · rw [if_neg h1]
    by_cases h2 : 4096 ≤ S.length
    · rw [if_pos h2]; exact h
    · rw [if_neg h2]
      refine ⟨fun a ha => ?_, ?_, by simp; omega⟩
      · rcases List.mem_append.1 ha with ha | ha
        · exact h.good a ha
        · rw [List.mem_singleton.1 ha]; exact hl
      · rw [List.nodup_append]
        exact ⟨h.nd, by simp, fun a ha b hb e => by rw [List.mem_singleton.1 hb] at e; rw [e] at ha; exact h1 ha⟩
theorem out_none {n : Nat} {xs : List Int} (h : outB n xs = none) : ∀ x ∈ xs, 0 ≤ x ∧ x < (n : Int) := by
  unfold outB at h
  rw [List.findIdx?_eq_none_iff] at h
  intro x hx
  have := h x hx
  simp at this
  omega
theorem GoodS.putF {n : Nat} {S : List (List Nat)} (h : GoodS n S) (xs : List Int) : GoodS n (putF n S xs).2 := by
  unfold BagR.putF
  cases ho : outB n xs with
  | some i => exact h
  | none => exact h.putL (good_bits (out_none ho))
theorem GoodS.at_ {n : Nat} {S : List (List Nat)} (h : GoodS n S) {i : Int} (hi : inS S i) : S[i.toNat]? = some (S.getD i.toNat []) ∧ Good n (S.getD i.toNat []) := by
  have h1 : i.toNat < S.length := by have := hi.1; have := hi.2; omega
  have e : S[i.toNat]? = some (S.getD i.toNat []) := by rw [List.getD_eq_getElem?_getD, List.getElem?_eq_getElem h1]; rfl
  exact ⟨e, h.good _ (List.mem_of_getElem? e)⟩
end BagR
end Go.Proofs.YtedmmmlahpmmoaaGreatDoor

namespace Go.Proofs.YtedmmmlahpmmoaaGreatDoor
open Go.RowKit Go.Shelf Go.Sort Go.Maps

def compL_ren : Go.Shelf.Ren := ⟨fun | 20 => 46 | n => n, fun | 22 => 22 | 3 => 3 | 4 => 4 | 0 => 0 | n => n, fun | n => n⟩
theorem compL : Go.Proofs.Lays2.n20 Tryz.prog compL_ren := {
  mixed := by kernel_rfl
  f20 := Tryz.func46.trans (congrArg some (by kernel_rfl))
  t0 := Tryz.underlying0
  a0 := Tryz.isAgg0
  z0 := Tryz.sizeOf0
  v0 := Tryz.zeroValue0
  t3 := Tryz.underlying3
  a3 := Tryz.isAgg3
  z3 := Tryz.sizeOf3
  v3 := Tryz.zeroValue3
  t4 := Tryz.underlying4
  a4 := Tryz.isAgg4
  z4 := Tryz.sizeOf4
  v4 := Tryz.zeroValue4
  t22 := Tryz.underlying22
  a22 := Tryz.isAgg22
  z22 := Tryz.sizeOf22
  v22 := Tryz.zeroValue22
  i3 := by kernel_rfl }

theorem compactUp_ded (xs : List Int) : ∀ i, i ≤ xs.length → Lib.compactUpTo xs.toArray i = BagR.dedTo xs i
  | 0, _ => rfl
  | i + 1, h => by
    rw [Lib.compactUpTo_succ, BagR.dedTo_succ, compactUp_ded xs i (by omega)]
    have e1 : xs.toArray[i]! = xs.getD i 0 := by
      rw [List.getD_eq_getElem?_getD, List.getElem?_eq_getElem (by omega)]
      simp [getElem!_pos, show i < xs.length by omega]
    have e2 : xs.toArray[i - 1]! = xs.getD (i - 1) 0 := by
      rw [List.getD_eq_getElem?_getD, List.getElem?_eq_getElem (by omega)]
      simp [getElem!_pos, show i - 1 < xs.length by omega]
    unfold Lib.keeps
    rw [e1, e2]
    congr 1
    by_cases hc : i = 0 ∨ xs.getD i 0 ≠ xs.getD (i - 1) 0
    · rw [if_pos (decide_eq_true hc), if_pos hc]
    · rw [if_neg (by rw [decide_eq_false hc]; decide), if_neg hc]
theorem compact_ded (xs : List Int) : Lib.compact xs = BagR.dedTo xs xs.length := compactUp_ded xs xs.length (Nat.le_refl _)
/-- The front of a row. -/
theorem own_frontC {w : World} {base e g n m cap : Nat} {xs : List Value} (h : w.ownsRow base e 1 (.slice (some ⟨g, 0, none⟩) n cap) n xs) (hm : m ≤ n) : w.ownsRow base e 1 (.slice (some ⟨g, 0, none⟩) m cap) m (xs.take m) := by
  have hl := h.1
  refine ⟨by rw [List.length_take, hl]; omega, ?_⟩
  rcases h.2 with ⟨hv, _⟩ | ⟨g', cap', cur, hv, hb, hg, h1, h2, h3, h4⟩
  · simp at hv
  · simp only [Value.slice.injEq, Option.some.injEq, Addr.mk.injEq, and_true, true_and] at hv
    obtain ⟨rfl, rfl⟩ := hv
    refine .inr ⟨g, cap, cur, rfl, hb, hg, by omega, h2, h3, ?_⟩
    rw [← h4, List.take_take]
    congr 1
    omega
theorem compOwn_c (w : World) (H n cap : Nat) (C : Option Addr) (xs : List Int) (hr : w.ownsRow H 3 1 (.slice C n cap) n (xs.map (Value.int .i64))) (hn : n < 4611686018427387904) :
    Calls Tryz.prog 46 #[.slice C n cap] w fun e w' => e = .returned (.slice C (BagR.dedTo xs xs.length).length cap) ∧
      w'.ownsRow H 3 1 (.slice C (BagR.dedTo xs xs.length).length cap) (BagR.dedTo xs xs.length).length ((BagR.dedTo xs xs.length).map (Value.int .i64)) ∧ w.grownBy w' (Value.slice C n cap).ownBlock := by
  have hl : xs.length = n := by simpa using hr.1
  rcases hr.2 with ⟨hv, hz0⟩ | ⟨gb, cap2, cur, hv, hbase, hgb, r1, r2, r3, r4⟩
  · cases hv
    have hss : xs = [] := List.eq_nil_of_length_eq_zero hl
    subst hss
    refine (Any.slices_Compact_int_empty compL none 0 w).mono ?_
    rintro e w' ⟨rfl, rfl⟩
    exact ⟨rfl, hr, World.grownBy.refl _ _⟩
  · cases hv
    subst hl
    have hH : Holds (Value.int .i64) w gb 0 xs.toArray := holds_of_blockI hgb (by simpa using r4)
    refine (Any.slices_Compact_int compL gb 0 cap xs w hH (by omega) r1).mono ?_
    rintro e w' ⟨rfl, q, rfl⟩
    rw [compact_ded]
    have hdl := BagR.dedTo_len xs xs.length
    have hts : (BagR.dedTo xs xs.length ++ List.replicate (xs.length - (BagR.dedTo xs xs.length).length) 0).length = xs.length := by simp; omega
    have h1 := ownsRow_sortedI (ts := BagR.dedTo xs xs.length ++ List.replicate (xs.length - (BagR.dedTo xs xs.length).length) 0) (n := q) (os := #[]) hts hbase hgb r1 r2 r3
    have h2 : w.grownBy (grow (putRow (Value.int .i64) (Sort.ahead w q) gb 0 (BagR.dedTo xs xs.length ++ List.replicate (xs.length - (BagR.dedTo xs xs.length).length) 0).toArray) #[]) (some gb) := grownBy_sortedI _
    rw [grow_empty] at h1 h2
    refine ⟨rfl, ?_, h2⟩
    have h3 := own_frontC h1 hdl
    rw [← List.map_take, List.take_left' rfl] at h3
    exact h3
end Go.Proofs.YtedmmmlahpmmoaaGreatDoor
