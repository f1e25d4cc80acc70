/- A number's text by the document: edenref02.Text. Condition: the number reads from memory. -/
import Derived.Test.YtkghilmdoabodaaDoorText
import Derived.Test.YtkghilmdoabodaaDoorRef2A
import Derived.Deep.RegionHeld3
import Derived.Deep.RegionLaw
namespace Go.Proofs.YtkghilmdoabodaaDoor
open Go.RowKit NatP

/-- The four digits of a group, the lowest first. -/
def fours (g : Nat) : List Nat := [g % 10, g / 10 % 10, g / 100 % 10, g / 1000]
theorem fours_ok {g : Nat} (h : g < 10000) : OkB 10 (fours g) := by
  intro x hx
  simp only [fours, List.mem_cons, List.not_mem_nil, or_false] at hx
  omega
theorem fours_val {g : Nat} (l : List Nat) : valB 10 (fours g ++ l) = g + 10000 * valB 10 l := by
  simp only [fours, List.cons_append, List.nil_append, valB]
  omega
theorem fours_all : ∀ {G : List Nat}, OkB 10000 G → OkB 10 (G.flatMap fours) ∧ valB 10 (G.flatMap fours) = valB 10000 G
  | [], _ => ⟨fun x hx => by simp at hx, rfl⟩
  | g :: G, h => by
    obtain ⟨h1, h2⟩ := fours_all (G := G) (fun x hx => h x (by simp [hx]))
    rw [List.flatMap_cons]
    refine ⟨ok_append (fours_ok (h g (by simp))) h1, ?_⟩
    rw [fours_val, h2]
    rfl
/-- The groups told so far, and what is left. -/
structure TextG (V : Nat) (G : List Nat) (u : Nat) : Prop where
  ok : OkB 10000 G
  eq : valB 10000 G + 10000 ^ G.length * u = V
theorem TextG.step {V u : Nat} {G : List Nat} (h : TextG V G u) : TextG V (G ++ [u % 10000]) (u / 10000) := by
  refine ⟨ok_append h.ok (fun x hx => by simp at hx; subst hx; exact Nat.mod_lt _ (by decide)), ?_⟩
  rw [val_snoc, List.length_append, List.length_singleton, Nat.pow_succ]
  have e1 := h.eq
  have e2 := Nat.mod_add_div u 10000
  have e3 : 10000 ^ G.length * u = 10000 ^ G.length * (u % 10000) + 10000 ^ G.length * 10000 * (u / 10000) := by
    conv => lhs; rw [← e2]
    rw [Nat.mul_add, Nat.mul_assoc]
  omega
theorem TextG.len {V n u : Nat} {G : List Nat} (h : TextG V G u) (hV : V < W32 ^ n) (hu : 0 < u) : G.length < 32 * n + 1 := by
  refine pow_le_pow2 (V := V) ?_ hV
  have h1 : 10 ^ G.length ≤ 10000 ^ G.length := Nat.pow_le_pow_left (by decide) _
  have h2 : 10000 ^ G.length * 1 ≤ 10000 ^ G.length * u := Nat.mul_le_mul (Nat.le_refl _) hu
  have := h.eq
  omega
/-- The characters of the groups from m on. -/
def charsG (G : List Nat) (m : Nat) : List UInt8 := (((G.drop m).flatMap fours).map dch).reverse
/-- A group's four characters. -/
def fourC (g : Nat) : List UInt8 := [dch (g / 1000), dch (g / 100 % 10), dch (g / 10 % 10), dch (g % 10)]
theorem charsG_all (G : List Nat) : charsG G G.length = [] := by simp [charsG]
theorem charsG_step {G : List Nat} {m : Nat} (h : m < G.length) : charsG G m = charsG G (m + 1) ++ fourC G[m] := by
  unfold charsG
  rw [List.drop_eq_getElem_cons h, List.flatMap_cons, List.map_append, List.reverse_append]
  rfl
/-- Without noughts ahead. -/
def noZero (l : List UInt8) : List UInt8 := l.dropWhile (fun b => b == 48)
theorem noZero_push {P : List UInt8} {c : UInt8} (h : noZero P ≠ [] ∨ c ≠ 48) : noZero (P ++ [c]) = noZero P ++ [c] := by
  unfold noZero at *
  induction P with
  | nil =>
    rcases h with h | h
    · simp at h
    · simp [List.dropWhile_cons, h]
  | cons x P ih =>
    rw [List.cons_append, List.dropWhile_cons, List.dropWhile_cons]
    rw [List.dropWhile_cons] at h
    split
    · rename_i hx
      rw [if_pos hx] at h
      exact ih h
    · rfl
theorem noZero_skip {P : List UInt8} (h : noZero P = []) : noZero (P ++ [48]) = [] := by
  unfold noZero at *
  induction P with
  | nil => simp
  | cons x P ih =>
    rw [List.cons_append, List.dropWhile_cons]
    rw [List.dropWhile_cons] at h
    split
    · rename_i hx
      rw [if_pos hx] at h
      exact ih h
    · rename_i hx
      rw [if_neg hx] at h
      cases h
/-- The whole text. -/
theorem noZero_text {V : Nat} {G : List Nat} (h : TextG V G 0) : noZero (charsG G 0) = if V = 0 then [] else textB V := by
  obtain ⟨h1, h2⟩ := fours_all h.ok
  have e := h.eq
  rw [Nat.mul_zero, Nat.add_zero] at e
  have := text_trim h1
  rw [h2, e] at this
  exact this
theorem textG_pos {V : Nat} {G : List Nat} (h : TextG V G 0) (hV : V ≠ 0) : G ≠ [] := by
  intro e
  subst e
  have := h.eq
  simp [valB] at this
  omega
theorem fourC_at {g k : Nat} (hk : k < 4) (hg : g < 10000) : ∃ b, (fourC g)[k]? = some b ∧ b.toNat < 256 := by
  have : k < (fourC g).length := by simpa [fourC] using hk
  exact ⟨_, List.getElem?_eq_getElem this, UInt8.toNat_lt _⟩
theorem noText {V : Nat} (hV : V ≠ 0) : textB V ≠ [] := textB_ne V

theorem push2_keeps {w w' : World} {v : Value} {g : Nat} (hor : (v.ownBlock = some g ∧ w.grownBy w' (some g)) ∨ (w.heap.size < g ∧ w.grownBy w' none)) : Keeps (fun k => v.ownBlock = some k) w w' ∧ (v.ownBlock = some g ∨ w.heap.size < g) := by
  rcases hor with ⟨h1, h⟩ | ⟨h1, h⟩
  · exact ⟨(Keeps.of_grown h).mono (fun b _ e => by cases e; exact h1), .inl h1⟩
  · exact ⟨(Keeps.of_grown h).mono (fun b _ e => by cases e), .inr h1⟩
theorem bv_dch {d : Nat} (h : d < 10) : bv (dch d) = .int .u8 (48 + (d : Int)) := by
  unfold bv
  rw [dch_toNat h]
  congr 1
theorem four_own (w : World) {g : Nat} (hg : g < 10000) : (w.alloc (.cells #[.int .u8 (48 + (g : Int) / 1000), .int .u8 (48 + (g : Int) / 100 % 10), .int .u8 (48 + (g : Int) / 10 % 10), .int .u8 (48 + (g : Int) % 10)] 5)).ownsRow 0 5 1 (.slice (some ⟨w.heap.size, 0, none⟩) 4 4) 4 ((fourC g).map bv) := by
  have h := World.ownsRow_lit (base := 0) (e := 5) (size := 1) w #[.int .u8 (48 + (g : Int) / 1000), .int .u8 (48 + (g : Int) / 100 % 10), .int .u8 (48 + (g : Int) / 10 % 10), .int .u8 (48 + (g : Int) % 10)] 4 (Nat.zero_le _) (by decide) rfl
  have e : (fourC g).map bv = #[Value.int .u8 (48 + (g : Int) / 1000), .int .u8 (48 + (g : Int) / 100 % 10), .int .u8 (48 + (g : Int) / 10 % 10), .int .u8 (48 + (g : Int) % 10)].toList := by
    simp only [fourC, List.map_cons, List.map_nil, bv_dch (show g / 1000 < 10 by omega), bv_dch (show g / 100 % 10 < 10 by omega), bv_dch (show g / 10 % 10 < 10 by omega), bv_dch (show g % 10 < 10 by omega)]
    rfl
  rw [e]
  exact h
theorem map_snoc_bv (O : List UInt8) (b : UInt8) : O.map bv ++ [Value.int .u8 (b.toNat : Int)] = (O ++ [b]).map bv := by simp [bv]
theorem map_snoc_wv (G : List Nat) (g : Nat) : G.map wv ++ [Value.int .u32 (g : Int)] = (G ++ [g]).map wv := by simp [wv]

set_option maxRecDepth 100000 in
set_option maxHeartbeats 4000000 in
theorem refText_n (w : World) {A : Option Addr} {n c V : Nat} (hN : Num w A n c V) (m1 : n ≤ 100000000) :
    Calls Tryd.prog 41 #[.slice A n c] w fun e w' => e = .returned (.string ⟨(textB V).toArray⟩) ∧ Below w.heap.size w w' := by
  have hV := hN.lt
  have HNM := Lib.hid (refNorm_n hN (by omega))
  have HV := Lib.hid hV
  have hst : TextG V [] V := ⟨fun x hx => by simp at hx, by simp [valB]⟩
  have hln := hN.len
  clear hN hV
  go_enter Tryd.func41, Tryd.ntmps41
  go_wp2_with fail
  refine (HNM.out).mono ?_
  rintro e w1 ⟨B1, c1, rfl, hN1, ho1, hb1⟩
  go_wp2_with fail
  go_loopw [3, 4] (fun a s wr => ∃ (v m cc : Nat) (B : Option Addr) (G : List Nat) (C : Option Addr) (gc : Nat), a = .slice B m cc ∧ s = .slice C G.length gc ∧ m = (limbs v).length ∧ m ≤ n ∧ G.length ≤ 32 * n + 2 ∧ Num wr B m cc v ∧ Hid (TextG V G v ∧ (G.length = 0 ∨ 0 < V)) ∧ wr.ownsRow w.heap.size 27 1 (.slice C G.length gc) G.length (G.map wv) ∧ Below w.heap.size w wr) (fun _ s _ => 40000000000 - slLen s)
  case atStart => exact ⟨V, _, c1, B1, [], none, 0, rfl, rfl, rfl, hln, by simp, hN1, Lib.hid ⟨hst, Or.inl rfl⟩, ⟨rfl, .inl ⟨rfl, rfl⟩⟩, hb1⟩
  case round =>
    clear hN1 ho1 hb1 hst hln
    obtain ⟨v, m, cc, B, G, C, gc, rfl, rfl, hmv, hmn, hGl, hNv, hT, hown, hb⟩ := hrel
    rcases Nat.eq_zero_or_pos m with h0 | h0
    · subst h0
      have hv := limbs_zero hmv.symm
      subst hv
      have HG := Lib.hid hT.out
      clear hT hmv hmn hNv
      rcases Nat.eq_zero_or_pos G.length with hg0 | hg0
      · have hG : G = [] := List.eq_nil_of_length_eq_zero hg0
        have hV0 : V = 0 := by
          have h := HG.out.1.eq
          rw [hG] at h
          exact h.symm
        have HV0 := Lib.hid hV0
        have HBB := Lib.hid hb
        rw [hg0]
        clear hg0 hG hV0 hown hb hGl
        go_wp2_with fail
        go_ret
        exact ⟨by rw [HV0.out]; rfl, HBB.out⟩
      · have hVp : 0 < V := by
          rcases HG.out.2 with h | h
          · omega
          · exact h
        have hng : ¬ G.length = 0 := by omega
        have hng2 : ((G.length : Int) == 0) = false := beq_eq_false_iff_ne.2 (by omega)
        have HVP := Lib.hid hVp
        have HBB := Lib.hid hb
        have HSG := Lib.hid (fun (wz : World) (hz : Below wr.heap.size wr wz) => (Sl.of_own hown).below hz)
        obtain ⟨L, hL⟩ : ∃ L, G.length = L := ⟨_, rfl⟩
        rw [hL] at HSG hGl hng hng2 hg0 ⊢
        have HL := Lib.hid hL
        clear hb hown hVp hL
        go_wp2_with fail
        obtain ⟨wo, rfl⟩ : ∃ wo : World, wo = wr := ⟨_, rfl⟩
        go_loopw [6, 7] (fun ov iv wr => ∃ (m : Nat) (z : Int) (O : List UInt8) (OA : Option Addr) (oc : Nat), m ≤ L ∧ iv = .int .i64 z ∧ Hid (z = (m : Int) - 1) ∧ ov = .slice OA O.length oc ∧ Hid (O = noZero (charsG G m)) ∧ O.length ≤ 4 * (L - m) ∧ wr.ownsRow wo.heap.size 5 1 (.slice OA O.length oc) O.length (O.map bv) ∧ Below wo.heap.size wo wr) (fun _ iv _ => (intOf iv + 1).toNat)
        case atStart => exact ⟨L, _, [], none, 0, Nat.le_refl _, rfl, Lib.hid rfl, rfl, Lib.hid (by rw [← HL.out, charsG_all]; rfl), by simp, ⟨rfl, .inl ⟨rfl, rfl⟩⟩, Below.refl _ _⟩
        case round =>
          obtain ⟨m, z, O, OA, oc, hm, rfl, hz, rfl, hO, hOl, hown, hb⟩ := hrel
          cases m with
          | zero =>
            obtain rfl : z = -1 := by have := hz.out; simpa using this
            have htx := noZero_text HG.out.1
            rw [if_neg (by have := HVP.out; omega), ← hO.out] at htx
            have hconv := run_own_string (P := Tryd.prog) wr 119 9 5 tBytes.und Tryd.underlying5 Tryd.underlying9 hown
            have HTX := Lib.hid htx
            have HB2 := Lib.hid (HBB.out.trans (hb.mono HBB.out.size))
            clear hO hz hown hb htx
            go_wp2_with fail
            go_ret
            exact ⟨by rw [← HTX.out]; rfl, HB2.out⟩
          | succ m =>
            obtain rfl : z = (m : Int) := by have := hz.out; omega
            have hlt : m < G.length := by rw [HL.out]; omega
            have hstep := charsG_step hlt
            have hsl := HSG.out wr hb
            obtain ⟨gad, gv, rfl, hgm, hgc⟩ := hsl.at_ (show m < L by omega)
            rw [List.getElem?_map, List.getElem?_eq_getElem hlt] at hgm
            obtain rfl : gv = wv G[m] := (Option.some.inj hgm).symm
            have hg4 := HG.out.1.ok G[m] (List.getElem_mem hlt)
            obtain ⟨g, hg⟩ : ∃ g, G[m] = g := ⟨_, rfl⟩
            rw [hg] at hstep hgc hg4
            unfold wv at hgc
            have HST := Lib.hid hstep
            have HOO := Lib.hid hO.out
            clear hstep hsl hgm hO hz hlt hg
            go_wp2_with fail
            have HF4 := Lib.hid (four_own wr hg4)
            have hgl : ∀ q, (Value.slice OA O.length oc).ownBlock = some q → q < wr.heap.size := fun q hq => (hown.lt q hq).2
            have hba := hb.alloc hb.size (.cells #[.int .u8 (48 + (g : Int) / 1000), .int .u8 (48 + (g : Int) / 100 % 10), .int .u8 (48 + (g : Int) / 10 % 10), .int .u8 (48 + (g : Int) % 10)] 5)
            have hoa := hown.alloc (.cells #[.int .u8 (48 + (g : Int) / 1000), .int .u8 (48 + (g : Int) / 100 % 10), .int .u8 (48 + (g : Int) / 10 % 10), .int .u8 (48 + (g : Int) % 10)] 5)
            have HD0 : Hid (∀ q, (Value.slice OA O.length oc).ownBlock = some q → q ≠ wr.heap.size) := Lib.hid (fun q hq e => by have := hgl q hq; omega)
            obtain ⟨g4, hg4'⟩ : ∃ g4, wr.heap.size = g4 := ⟨_, rfl⟩
            obtain ⟨wb, hwb⟩ : ∃ wb, (wr.alloc (.cells #[.int .u8 (48 + (g : Int) / 1000), .int .u8 (48 + (g : Int) / 100 % 10), .int .u8 (48 + (g : Int) / 10 % 10), .int .u8 (48 + (g : Int) % 10)] 5)) = wb := ⟨_, rfl⟩
            rw [hwb] at hba hoa HF4 ⊢
            rw [hg4'] at HF4 HD0 ⊢
            have HG4 := Lib.hid hg4
            clear hgl hown hb hgc hg4' hwb hg4
            go_loopw [6, 10] (fun ov kv wk => ∃ (k : Nat) (O2 : List UInt8) (OA2 : Option Addr) (oc2 : Nat), k ≤ 4 ∧ kv = .int .i64 (k : Int) ∧ ov = .slice OA2 O2.length oc2 ∧ Hid (O2 = noZero (charsG G (m + 1) ++ (fourC g).take k)) ∧ O2.length ≤ 4 * (L - (m + 1)) + k ∧ wk.ownsRow wo.heap.size 5 1 (.slice OA2 O2.length oc2) O2.length (O2.map bv) ∧
                Hid (wk.ownsRow 0 5 1 (.slice (some ⟨g4, 0, none⟩) 4 4) 4 ((fourC g).map bv)) ∧ Hid (∀ q, (Value.slice OA2 O2.length oc2).ownBlock = some q → q ≠ g4) ∧ Below wo.heap.size wo wk) (fun _ kv _ => 4 - (intOf kv).toNat)
            case atStart => exact ⟨0, O, OA, oc, by omega, rfl, rfl, Lib.hid (by rw [HOO.out]; simp), by omega, hoa, HF4, HD0, hba⟩
            case round =>
              clear hoa hba HF4 HD0
              obtain ⟨k, O2, OA2, oc2, hk4, rfl, rfl, hO2, hOl2, hown2, HF4, HD, hb2⟩ := hrel
              by_cases hkl : k < 4
              · obtain ⟨b, hbk, hb256⟩ := fourC_at (g := g) hkl HG4.out
                have hcell := HF4.out.cellAt k (by omega)
                rw [List.getElem?_map, hbk] at hcell
                change wr.cell? ⟨g4, k, none⟩ = some (.int .u8 (b.toNat : Int)) at hcell
                have htk : (fourC g).take (k + 1) = (fourC g).take k ++ [b] := by rw [List.take_add_one, hbk]; rfl
                have hpush : (noZero (charsG G (m + 1) ++ (fourC g).take k) ≠ [] ∨ b ≠ 48) → O2 ++ [b] = noZero (charsG G (m + 1) ++ (fourC g).take (k + 1)) := fun h => by
                  rw [htk, ← List.append_assoc, noZero_push h, ← hO2.out]
                have hskip : noZero (charsG G (m + 1) ++ (fourC g).take k) = [] → b = 48 → [] = noZero (charsG G (m + 1) ++ (fourC g).take (k + 1)) := fun h1 h2 => by
                  rw [htk, ← List.append_assoc, h2, noZero_skip h1]
                rw [← hO2.out] at hpush hskip
                clear hbk htk hO2
                by_cases hn : O2.length = 0
                · have hO2 : O2 = [] := List.eq_nil_of_length_eq_zero hn
                  by_cases hz : b = 48
                  · have HSK := Lib.hid (hskip hO2 hz)
                    have hz1 : ((b.toNat : Int) != 48) = false := by rw [hz]; rfl
                    have HO3 := Lib.hid hown2
                    have HB3 := Lib.hid hb2
                    have HN := Lib.hid hO2
                    have hd0 : decide (0 < O2.length) = false := decide_eq_false (by omega)
                    obtain ⟨l2, hl2⟩ : ∃ l2, O2.length = l2 := ⟨_, rfl⟩
                    have HL2 := Lib.hid hl2
                    rw [hl2] at hd0 hn hOl2 ⊢
                    subst hn
                    clear hpush hskip hO2 hz hown2 hb2 hl2
                    go_wp2_with fail
                    exact ⟨⟨k + 1, O2, OA2, oc2, by omega, by go_num, by rw [HL2.out], Lib.hid (by rw [HN.out]; exact HSK.out), by rw [HL2.out]; omega, HO3.out, HF4, HD, HB3.out⟩, by simp [intOf]; omega⟩
                  · have HPU := Lib.hid (hpush (Or.inr hz))
                    have hz1 : ((b.toNat : Int) != 48) = true := by
                      simp only [bne_iff_ne]
                      intro e
                      exact hz (UInt8.toNat_inj.1 (by have : (48 : UInt8).toNat = 48 := rfl; omega))
                    have hd0 : decide (0 < O2.length) = false := decide_eq_false (by omega)
                    have hd1 : ¬ 0 < O2.length := by omega
                    clear hpush hskip hO2 hz hn
                    go_wp2_with (at_builtin; refine wpList_push2 rfl _ _ _ rfl tBytes hown2 rfl _ 0 rfl rfl rfl (by simp only [maxLen]; omega) (by omega) hb2.size ?_; intro g3 cap w3 hown3 hor hlt3)
                    obtain ⟨hk, hg3⟩ := push2_keeps hor
                    have hb3 : Below wo.heap.size wo w3 := hb2.trans (hk.below hb2.size (fun b hb => (hown2.lt b hb).1))
                    have HF3 := Lib.hid (own_keeps HF4.out hk (fun q hq hO => HD.out q hO (by simpa [Value.ownBlock] using hq.symm)))
                    have HD3 : Hid (∀ q, (Value.slice (some ⟨g3, 0, none⟩) (O2.length + 1) cap).ownBlock = some q → q ≠ g4) := Lib.hid (fun q hq e => by
                      have e1 : g3 = q := by simpa [Value.ownBlock] using hq
                      rcases hg3 with h | h
                      · exact HD.out g3 h (by omega)
                      · have := (HF4.out.lt g4 rfl).2; omega)
                    rw [map_snoc_bv] at hown3
                    have hl : (O2 ++ [b]).length = O2.length + 1 := by simp
                    have HB3 := Lib.hid hb3
                    have HO3 := Lib.hid hown3
                    clear hk hor hown2 hb2 hb3 hown3 hg3 hcell
                    go_wp2_with fail
                    exact ⟨⟨k + 1, O2 ++ [b], some ⟨g3, 0, none⟩, cap, by omega, by go_num, by rw [hl], HPU, by rw [hl]; omega, by rw [hl]; exact HO3.out, HF3, by rw [hl]; exact HD3, HB3.out⟩, by simp [intOf]; omega⟩
                · have HPU := Lib.hid (hpush (Or.inl (fun e => hn (by rw [e]; rfl))))
                  have hd0 : decide (0 < O2.length) = true := decide_eq_true (by omega)
                  have hd1 : 0 < O2.length := by omega
                  clear hpush hskip hn
                  go_wp2_with (at_builtin; refine wpList_push2 rfl _ _ _ rfl tBytes hown2 rfl _ 0 rfl rfl rfl (by simp only [maxLen]; omega) (by omega) hb2.size ?_; intro g3 cap w3 hown3 hor hlt3)
                  obtain ⟨hk, hg3⟩ := push2_keeps hor
                  have hb3 : Below wo.heap.size wo w3 := hb2.trans (hk.below hb2.size (fun b hb => (hown2.lt b hb).1))
                  have HF3 := Lib.hid (own_keeps HF4.out hk (fun q hq hO => HD.out q hO (by simpa [Value.ownBlock] using hq.symm)))
                  have HD3 : Hid (∀ q, (Value.slice (some ⟨g3, 0, none⟩) (O2.length + 1) cap).ownBlock = some q → q ≠ g4) := Lib.hid (fun q hq e => by
                    have e1 : g3 = q := by simpa [Value.ownBlock] using hq
                    rcases hg3 with h | h
                    · exact HD.out g3 h (by omega)
                    · have := (HF4.out.lt g4 rfl).2; omega)
                  rw [map_snoc_bv] at hown3
                  have hl : (O2 ++ [b]).length = O2.length + 1 := by simp
                  have HB3 := Lib.hid hb3
                  have HO3 := Lib.hid hown3
                  clear hk hor hown2 hb2 hb3 hown3 hg3 hcell
                  go_wp2_with fail
                  exact ⟨⟨k + 1, O2 ++ [b], some ⟨g3, 0, none⟩, cap, by omega, by go_num, by rw [hl], HPU, by rw [hl]; omega, by rw [hl]; exact HO3.out, HF3, by rw [hl]; exact HD3, HB3.out⟩, by simp [intOf]; omega⟩
              · obtain rfl : k = 4 := by omega
                have HO3 := Lib.hid hown2
                have HB3 := Lib.hid hb2
                have HE : Hid (O2 = noZero (charsG G m)) := Lib.hid (by rw [HST.out, hO2.out]; rfl)
                clear hO2 hown2 hb2
                go_wp2_with fail
                exact ⟨⟨m, _, O2, OA2, oc2, by omega, rfl, Lib.hid rfl, rfl, HE, by omega, HO3.out, HB3.out⟩, by simp [intOf] <;> omega⟩
    · have hv : 0 < v := by
        rcases Nat.eq_zero_or_pos v with hv | hv
        · subst hv; simp [limbs, digs_zero] at hmv; omega
        · exact hv
      have hG := hT.out.1.len HV.out hv
      have hstep := hT.out.1.step
      have hVp : 0 < V := by
        have h1 := hT.out.1.eq
        have h2 : 0 < 10000 ^ G.length * v := Nat.mul_pos (Nat.pow_pos (by decide)) hv
        omega
      have HO := Lib.hid (refOver_ok hNv (d := 10000) (by decide) (by decide) (by omega))
      have hle := limbs_div_le v 10000
      rw [← hmv] at hle
      have hlt := Nat.mod_lt v (show 0 < 10000 by decide)
      have hcast : ((10000 : Nat) : Int) = 10000 := rfl
      rw [hcast] at HO
      have HST := Lib.hid (And.intro hstep (Or.inr hVp : (G ++ [v % 10000]).length = 0 ∨ 0 < V))
      clear hT hv hmv hstep hcast hVp
      generalize v / 10000 = v2 at HO HST hle
      generalize v % 10000 = g at HO HST hlt
      go_wp2_with fail
      refine (HO.out).mono ?_
      rintro e w2 ⟨B2, c2, rfl, hN2, ho2, hb2⟩
      have hown2 := own_below hown hb2
      have hbw := hb.trans (hb2.mono hb.size)
      have hz2 := hb.size
      have HGL := Lib.hid (fun (q : Nat) (hq : (Value.slice C G.length gc).ownBlock = some q) => (hown.lt q hq).2)
      clear HO hown hb2 hb hNv
      go_wp2_with (at_builtin; refine wpList_push2 rfl _ _ _ rfl tWords hown2 rfl _ 0 rfl rfl rfl (by simp only [maxLen]; omega) (by omega) hbw.size ?_; intro g3 cap w3 hown3 hor hlt3)
      obtain ⟨hk, hg3⟩ := push2_keeps hor
      have hb3 : Below w.heap.size w w3 := hbw.trans (hk.below hbw.size (fun b hb => (hown2.lt b hb).1))
      have hN3 : Num w3 B2 (limbs v2).length c2 v2 := num_own (own_keeps ho2 hk (fun b hb hO => by
        have h1 := (ho2.lt b hb).1
        have h2 := HGL.out b hO
        omega))
      rw [map_snoc_wv] at hown3
      have hl : (G ++ [g]).length = G.length + 1 := by simp
      have HN3 := Lib.hid hN3
      have HB3 := Lib.hid hb3
      have HO3 := Lib.hid hown3
      clear hk hor hown2 hbw ho2 hN2 hb3 hN3 hown3 hg3
      go_wp2_with fail
      exact ⟨⟨v2, _, c2, B2, G ++ [g], some ⟨g3, 0, none⟩, cap, rfl, by rw [hl], rfl, by omega, by rw [hl]; omega, HN3.out, HST, by rw [hl]; exact HO3.out, HB3.out⟩, by simp [slLen_slice]; omega⟩
end Go.Proofs.YtkghilmdoabodaaDoor
