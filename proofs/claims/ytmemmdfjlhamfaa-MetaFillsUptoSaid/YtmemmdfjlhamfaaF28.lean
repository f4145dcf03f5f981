/- Laws of layer 3: SubstUp, SubstWeakens. -/
import Derived.Test.YtmemmdfjlhamfaaF27
set_option linter.unusedSimpArgs false
set_option linter.unusedVariables false
set_option maxRecDepth 100000
namespace Go.Proofs.Ytmemmdfjlhamfaa
open Go.Proofs
theorem below_sh (s : Sb) (d : Nat) : (below_n s d).sh = s.sh + d := by
  induction d with
  | zero => simp [below_n]
  | succ d ih => simp only [below_n, underS, ih]; omega
theorem ren_all {s : Sb} (hs : 0 ≤ s.sh) {G : Int → Int → Int} {P : Int → Int → Bool} (h0 : ∀ i, 0 ≤ i → P i 0 = true → ofS s i = .mk 4 (G i 0) []) (hG0 : ∀ d : Nat, G 0 ((d + 1 : Nat) : Int) = 0)
    (hGs : ∀ (i : Int) (d : Nat), 0 ≤ i → P (i + 1) ((d + 1 : Nat) : Int) = true → P i d = true ∧ G (i + 1) ((d + 1 : Nat) : Int) = G i d + 1) (hGn : ∀ (i : Int) (d : Nat), 0 ≤ i → P i d = true → 0 ≤ G i d) :
    ∀ (d : Nat) (i : Int), 0 ≤ i → P i d = true → ofS (below_n s d) i = .mk 4 (G i d) []
  | 0, i, hi, hp => h0 i hi hp
  | d + 1, i, hi, hp => by
    rcases Int.lt_or_le 0 i with h1 | h1
    · obtain ⟨q1, q2⟩ := hGs (i - 1) d (by omega) (by rw [show i - 1 + 1 = i by omega]; exact hp)
      have := of_under (below_n s d) (i := i - 1) (by omega) (by rw [below_sh]; omega)
      rw [show i - 1 + 1 = i by omega] at this q2
      rw [below_n, this, ren_all hs h0 hG0 hGs hGn d (i - 1) (by omega) q1, up_var _ _ (hGn _ _ (by omega) q1), q2]
    · obtain rfl : i = 0 := by omega
      rw [below_n, of_under0, hG0]; rfl
theorem apply_ren {s : Sb} {G : Int → Int → Int} {P : Int → Int → Bool} {t : Tm} (d : Nat) (hH : ∀ (d : Nat) (i : Int), 0 ≤ i → P i d = true → ofS (below_n s d) i = .mk 4 (G i d) []) (ht : mayB t = true) (hS : smayB (below_n s d) = true)
    (hc : canB P t d = true) (hm : mayB (mapT G t d) = true) : applyR t (below_n s d) = (mapT G t d, 0) := by
  obtain ⟨p1, p2, p3⟩ := may_parts ht
  unfold applyR
  rw [ht, hS, Bool.and_self, if_pos rfl, ap_ren hH t p1 40000 d 0 hc (by omega) (by omega)]
  simp only [outD, hm, if_true]
theorem ren_up (b : Int) (hb : 0 ≤ b) : ∀ (d : Nat) (i : Int), 0 ≤ i → (fun _ _ => true : Int → Int → Bool) i d = true → ofS (below_n ⟨[], b⟩ d) i = .mk 4 (gUp b i d) [] := by
  refine ren_all (G := gUp b) (P := fun _ _ => true) hb (fun i hi _ => ?_) (fun d => ?_) (fun i d hi _ => ⟨rfl, ?_⟩) (fun i d hi _ => ?_)
  · unfold ofS gUp
    rw [if_neg (by simp; omega), if_pos (by omega)]
    simp
  · unfold gUp; rw [if_neg (by omega)]
  · unfold gUp; split <;> split <;> omega
  · unfold gUp; split <;> omega
theorem ren_dn (x : Tm) : ∀ (d : Nat) (i : Int), 0 ≤ i → pDn 1 i d = true → ofS (below_n ⟨[x], 0⟩ d) i = .mk 4 (gDn 1 i d) [] := by
  refine ren_all (G := gDn 1) (P := pDn 1) (by simp) (fun i hi hp => ?_) (fun d => ?_) (fun i d hi hp => ⟨?_, ?_⟩) (fun i d hi hp => ?_)
  · simp only [pDn, Bool.or_eq_true, decide_eq_true_eq] at hp
    unfold ofS gDn
    rw [if_neg (by simp; omega), if_neg (by omega)]
    simp
  · unfold gDn; rw [if_pos (by omega)]
  · simp only [pDn, Bool.or_eq_true, decide_eq_true_eq] at hp ⊢; omega
  · simp only [pDn, Bool.or_eq_true, decide_eq_true_eq] at hp
    unfold gDn; split <;> split <;> omega
  · simp only [pDn, Bool.or_eq_true, decide_eq_true_eq] at hp
    unfold gDn; split <;> omega
theorem ofS_id (n : Int) {i : Int} (h : 0 ≤ i) : ofS (idS n) i = .mk 4 i [] := by
  unfold ofS idS
  simp only [idL_len]
  split
  · rename_i hi
    rw [List.getD_eq_getElem?_getD]
    unfold idL
    rw [List.getElem?_map, List.getElem?_range (by omega)]
    simp only [Option.map_some, Option.getD_some]
    congr 1; omega
  · congr 1; omega
theorem ren_id (n : Int) : ∀ (d : Nat) (i : Int), 0 ≤ i → (fun _ _ => true : Int → Int → Bool) i d = true → ofS (below_n (idS n) d) i = .mk 4 ((fun i _ => i : Int → Int → Int) i d) [] := by
  refine ren_all (G := fun i _ => i) (P := fun _ _ => true) (by unfold idS; simp) (fun i hi _ => ofS_id n hi) (fun d => rfl) (fun i d hi _ => ⟨rfl, rfl⟩) (fun i d hi _ => hi)
theorem subst_room {t : Tm} {s : Sb} (ht : t.size < room) (h : smayB s = true) : (∀ x ∈ s.L, x.size < room) ∧ s.L.length < room := by
  have hr : room = 1099511627776 := rfl
  obtain ⟨h1, h2, h3, h4⟩ := smay_parts h
  exact ⟨fun x hx => by have := (may_parts (h4 x hx)).2.1; omega, by omega⟩
end Go.Proofs.Ytmemmdfjlhamfaa
