/- The law RunsCover: that it answers true. -/
import Derived.Test.YthgdooidleoicaaRuns4
namespace Go.Proofs.Ythgdooidleoicaa.Abs
open Go Go.Proofs
set_option linter.unusedVariables false
set_option linter.unusedSimpArgs false
attribute [local irreducible] wpI wpR ropK chk ASt.push ASt.put ASt.fresh ASt.kill appS

def seg (bs : List UInt8) (i j : Nat) : List UInt8 := (bs.take j).drop i
theorem seg_app (bs : List UInt8) {i j k : Nat} (h1 : i ≤ j) (h2 : j ≤ k) : seg bs i k = seg bs i j ++ seg bs j k := by
  unfold seg
  conv => lhs; rw [← List.take_append_drop j (bs.take k)]
  rw [List.take_take, Nat.min_eq_left h2]
  by_cases hj : j ≤ bs.length
  · rw [List.drop_append_of_le_length (by simp; omega)]
  · have e1 : bs.take j = bs := List.take_of_length_le (by omega)
    have e2 : bs.take k = bs := List.take_of_length_le (by omega)
    rw [e1, e2, List.drop_of_length_le (by omega : bs.length ≤ j)]; simp
/-- What a run says of its bytes: w, the pieces' length. -/
def Sg (bs : List UInt8) (w : Nat) (r : Rn) : Prop :=
  (r.zero = true → zeroL (seg bs r.at_ (r.at_ + r.len)) = true) ∧ (r.zero = false → ∀ j, j * w < r.len → zeroL (seg bs (r.at_ + j * w) (min (r.at_ + j * w + w) (r.at_ + r.len))) = false)
inductive Cv (bs : List UInt8) (u w : Nat) : List Rn → Nat → Prop
  | nil : Cv bs u w [] 0
  | snoc (acc : List Rn) (r : Rn) (h : Cv bs u w acc r.at_) (h1 : 1 ≤ r.len) (h2 : r.at_ + r.len ≤ bs.length) (h3 : r.at_ % u = 0) (h4 : ∀ q, acc.getLast? = some q → q.zero ≠ r.zero) (h5 : Sg bs w r) : Cv bs u w (acc ++ [r]) (r.at_ + r.len)
theorem Cv.inv {bs : List UInt8} {u w : Nat} {acc : List Rn} {r : Rn} {n : Nat} (h : Cv bs u w (acc ++ [r]) n) :
    n = r.at_ + r.len ∧ Cv bs u w acc r.at_ ∧ 1 ≤ r.len ∧ r.at_ + r.len ≤ bs.length ∧ r.at_ % u = 0 ∧ (∀ q, acc.getLast? = some q → q.zero ≠ r.zero) ∧ Sg bs w r := by
  generalize e : acc ++ [r] = l at h
  cases h with
  | nil => simp at e
  | snoc acc' r' h h1 h2 h3 h4 h5 =>
    obtain ⟨rfl, e2⟩ := List.append_inj' e rfl
    simp only [List.cons.injEq, and_true] at e2
    subst e2
    exact ⟨rfl, h, h1, h2, h3, h4, h5⟩
theorem Cv.inv0 {bs : List UInt8} {u w n : Nat} (h : Cv bs u w [] n) : n = 0 := by
  generalize e : ([] : List Rn) = l at h
  cases h with
  | nil => rfl
  | snoc => simp at e
theorem Cv.take {bs : List UInt8} {u w : Nat} {l : List Rn} {n : Nat} (h : Cv bs u w l n) : ∀ k, k ≤ l.length → ∃ m, Cv bs u w (l.take k) m := by
  induction h with
  | nil => intro k hk; exact ⟨0, by simpa using Cv.nil⟩
  | snoc acc r h h1 h2 h3 h4 h5 ih =>
    intro k hk
    rw [List.length_append, List.length_singleton] at hk
    by_cases hk2 : k ≤ acc.length
    · obtain ⟨m, hm⟩ := ih k hk2
      exact ⟨m, by rw [List.take_append_of_le_length hk2]; exact hm⟩
    · exact ⟨_, by rw [List.take_of_length_le (by simp; omega)]; exact Cv.snoc acc r h h1 h2 h3 h4 h5⟩
theorem Cv.fun {bs : List UInt8} {u w : Nat} {l : List Rn} {n m : Nat} (h : Cv bs u w l n) (h' : Cv bs u w l m) : n = m := by
  rcases List.eq_nil_or_concat l with rfl | ⟨a, r, rfl⟩
  · rw [h.inv0, h'.inv0]
  · rw [List.concat_eq_append] at h h'
    rw [h.inv.1, h'.inv.1]

theorem cv_runs (bs : List UInt8) (u : Nat) (hu : 0 < u) : ∀ (f i : Nat) (acc : List Rn), bs.length - i ≤ f → i ≤ bs.length → Cv bs u (min u bs.length) acc i → (i < bs.length → i % u = 0 ∧ ∀ r, acc.getLast? = some r → r.len % u = 0) →
    Cv bs u (min u bs.length) (runsFrom bs u f i acc) bs.length
  | 0, i, acc, hf, hi, hc, _ => by
    have : i = bs.length := by omega
    subst this; exact hc
  | f + 1, i, acc, hf, hi, hc, hm => by
    by_cases h : i < bs.length
    · obtain ⟨hm1, hm2⟩ := hm h
      simp only [runsFrom, h, if_true]
      have hn1 : 1 ≤ min u (bs.length - i) := by omega
      have hn2 : i + min u (bs.length - i) ≤ bs.length := by omega
      have hn3 : i + min u (bs.length - i) < bs.length → min u (bs.length - i) = u := by omega
      have hnw : min u (bs.length - i) ≤ min u bs.length := by omega
      generalize min u (bs.length - i) = n at *
      have hzz : zeroL ((bs.take (i + n)).drop i) = zeroL (seg bs i (i + n)) := rfl
      rw [hzz]
      generalize hz : zeroL (seg bs i (i + n)) = z
      have hmod : i + n < bs.length → (i + n) % u = 0 := by
        intro hlt
        rw [hn3 hlt, Nat.add_mod_right]; exact hm1
      have hsg : Sg bs (min u bs.length) ⟨i, n, z⟩ := by
        refine ⟨fun h => by simp only at h ⊢; rw [hz, h], fun h j hj => ?_⟩
        simp only at h hj ⊢
        have hj0 : j = 0 := by
          cases j with
          | zero => rfl
          | succ j =>
            exfalso
            have : (j + 1) * min u bs.length = j * min u bs.length + min u bs.length := by rw [Nat.add_mul, Nat.one_mul]
            omega
        subst hj0
        rw [Nat.zero_mul, Nat.add_zero, show min (i + min u bs.length) (i + n) = i + n by omega, hz, h]
      rcases List.eq_nil_or_concat acc with rfl | ⟨a, r, rfl⟩
      · rw [stepR_nil]
        refine cv_runs bs u hu f (i + n) _ (by omega) hn2 ?_ ?_
        · exact Cv.snoc [] ⟨i, n, z⟩ hc hn1 hn2 hm1 (fun q hq => by simp at hq) hsg
        · intro hlt
          refine ⟨hmod hlt, fun r hr => ?_⟩
          simp at hr; subst hr
          rw [hn3 hlt]; exact Nat.mod_self u
      · rw [List.concat_eq_append] at hc hm2 ⊢
        obtain ⟨e, hca, h1, h2, h3, h4, h5⟩ := hc.inv
        have hlast : (a ++ [r]).getLast? = some r := by simp
        have hrm := hm2 r hlast
        by_cases hzr : r.zero = z
        · have es : stepR (a ++ [r]) i n z = a ++ [{ r with len := r.len + n }] := by simp [stepR, hzr]
          rw [es]
          refine cv_runs bs u hu f (i + n) _ (by omega) hn2 ?_ ?_
          · have := Cv.snoc a { r with len := r.len + n } hca (by simp only; omega) (by simp only; omega) h3 h4 ?_
            · simp only at this; rwa [show r.at_ + (r.len + n) = i + n by omega] at this
            · refine ⟨fun hr => ?_, fun hr j hj => ?_⟩
              · simp only at hr ⊢
                rw [show r.at_ + (r.len + n) = i + n by omega, seg_app bs (j := i) (by omega) (by omega), zeroL_app, hz, ← hzr, hr, Bool.and_true, e]
                exact h5.1 hr
              · simp only at hr hj ⊢
                by_cases hjl : j * min u bs.length < r.len
                · have := h5.2 hr j hjl
                  have hle : r.at_ + j * min u bs.length + min u bs.length ≤ r.at_ + r.len := by
                    have hw : min u bs.length = u := by
                      have : r.len ≤ bs.length := by omega
                      have : 0 < r.len := h1
                      have hd : u ≤ r.len := Nat.le_of_dvd h1 (Nat.dvd_of_mod_eq_zero hrm)
                      omega
                    rw [hw] at hjl ⊢
                    obtain ⟨q, hq⟩ := Nat.dvd_of_mod_eq_zero hrm
                    have : j < q := by
                      rw [hq, Nat.mul_comm u q] at hjl
                      exact Nat.lt_of_mul_lt_mul_right hjl
                    have h6 : (j + 1) * u ≤ q * u := Nat.mul_le_mul_right u this
                    rw [Nat.add_mul, Nat.one_mul] at h6
                    rw [hq, Nat.mul_comm u q]; omega
                  rw [Nat.min_eq_left hle] at this
                  rw [show min (r.at_ + j * min u bs.length + min u bs.length) (r.at_ + (r.len + n)) = r.at_ + j * min u bs.length + min u bs.length from Nat.min_eq_left (by omega)]
                  exact this
                · have hw : min u bs.length = u := by
                    have hd : u ≤ r.len := Nat.le_of_dvd h1 (Nat.dvd_of_mod_eq_zero hrm)
                    omega
                  rw [hw] at hj hjl hnw ⊢
                  obtain ⟨q, hq⟩ := Nat.dvd_of_mod_eq_zero hrm
                  have hjq : j = q := by
                    rw [hq, Nat.mul_comm u q] at hj hjl
                    have h6 : q ≤ j := Nat.le_of_mul_le_mul_right (by omega) hu
                    have h7 : j < q + 1 := by
                      apply Nat.lt_of_mul_lt_mul_right (a := u)
                      rw [Nat.add_mul, Nat.one_mul]; omega
                    omega
                  subst hjq
                  have e2 : r.at_ + j * u = i := by rw [Nat.mul_comm]; omega
                  rw [e2, show min (i + u) (r.at_ + (r.len + n)) = i + n by omega, hz, ← hzr, hr]
          · intro hlt
            refine ⟨hmod hlt, fun r' hr' => ?_⟩
            simp at hr'; subst hr'
            simp only
            rw [hn3 hlt, Nat.add_mod_right]; exact hrm
        · have es : stepR (a ++ [r]) i n z = (a ++ [r]) ++ [⟨i, n, z⟩] := by simp [stepR, hzr]
          rw [es]
          refine cv_runs bs u hu f (i + n) _ (by omega) hn2 ?_ ?_
          · refine Cv.snoc (a ++ [r]) ⟨i, n, z⟩ hc hn1 hn2 hm1 (fun q hq => ?_) hsg
            rw [hlast] at hq; cases hq; exact hzr
          · intro hlt
            refine ⟨hmod hlt, fun r' hr' => ?_⟩
            rw [List.getLast?_append] at hr'
            simp at hr'; subst hr'
            simp only
            rw [hn3 hlt]; exact Nat.mod_self u
    · rw [runsFrom_stop h]
      have : i = bs.length := by omega
      subst this; exact hc
theorem cv_all (bs : List UInt8) (u : Int) (hu : 1 ≤ u) : Cv bs u.toNat (min u.toNat bs.length) (runsOf bs u) bs.length := by
  rw [runsOf, if_neg (by omega)]
  exact cv_runs bs u.toNat (by omega) bs.length 0 [] (by omega) (by omega) Cv.nil (fun _ => ⟨by simp, fun r hr => by simp at hr⟩)
/-- What the law asks of each run. -/
theorem cv_at {bs : List UInt8} {u w at_ i : Nat} {l : List Rn} (h : Cv bs u w l bs.length) (hi : i < l.length) (ht : Cv bs u w (l.take i) at_) :
    l[i].at_ = at_ ∧ 1 ≤ l[i].len ∧ at_ + l[i].len ≤ bs.length ∧ at_ % u = 0 ∧ (∀ (h0 : 0 < i), (l[i - 1]'(by omega)).zero ≠ l[i].zero) ∧ Sg bs w l[i] ∧ Cv bs u w (l.take (i + 1)) (at_ + l[i].len) := by
  obtain ⟨m, hm⟩ := h.take (i + 1) hi
  have hm' := hm
  rw [List.take_succ_eq_append_getElem hi] at hm'
  obtain ⟨e, hc, h1, h2, h3, h4, h5⟩ := hm'.inv
  have := hc.fun ht
  subst this
  refine ⟨rfl, h1, h2, h3, fun h0 => ?_, h5, by rw [← e]; exact hm⟩
  refine h4 _ ?_
  rw [List.getLast?_eq_getElem?, List.length_take, Nat.min_eq_left (by omega), List.getElem?_take, if_pos (by omega)]
  exact List.getElem?_eq_getElem (by omega)

theorem runsCover (bs : List UInt8) (u : Int) (hu : (Lit.int .i64 u).wf = true) (S : ASt) : ACalls Try.prog 6 [.sl .ro 1 (u8s bs), .int .i64 u] S fun v S' => v = .bool true := by
  refine en_6 (by exact Nat.le_of_ble_eq_true rfl) ?_
  unfold rc_6
  have hu' : -9223372036854775808 ≤ u ∧ u ≤ 9223372036854775807 := by
    simp only [Lit.wf, Bool.and_eq_true, decide_eq_true_eq] at hu
    exact hu
  by_cases hl : bs.length ≤ 2000
  · by_cases hu1 : u < 1
    · refine r_reg ?_
      apply i_mov
      · exact tB rfl
      refine i_nil ?_
      refine r_reg ?_
      apply i_mov
      · exact tS rfl
      apply i_lenM
      · exact rfl
      apply i_gtF
      · exact rfl
      · exact rfl
      · omega
      apply i_mov
      · exact tB rfl
      apply i_gT
      · exact rfl
      apply i_mov
      · exact tI rfl
      apply i_gT
      · exact rfl
      apply i_ltT
      · exact rfl
      · exact rfl
      · omega
      apply i_pickF
      · exact rfl
      · exact tB rfl
      refine i_nil ?_
      apply r_condT
      · exact rfl
      refine r_reg ?_
      refine i_call (runsRuns _) rfl ?_
      rintro v S4 ⟨rfl, hst4⟩
      apply i_mov
      · exact tB rfl
      refine i_nil ?_
      refine r_ret ?_
      refine q_kr ?_
      apply q_ret1
      · exact tB rfl
      rfl
    · refine r_reg ?_
      apply i_mov
      · exact tB rfl
      refine i_nil ?_
      refine r_reg ?_
      apply i_mov
      · exact tS rfl
      apply i_lenM
      · exact rfl
      apply i_gtF
      · exact rfl
      · exact rfl
      · omega
      apply i_mov
      · exact tB rfl
      apply i_gT
      · exact rfl
      apply i_mov
      · exact tI rfl
      apply i_gT
      · exact rfl
      apply i_ltF
      · exact rfl
      · exact rfl
      · omega
      apply i_pickF
      · exact rfl
      · exact tB rfl
      refine i_nil ?_
      apply r_condF
      · exact rfl
      refine r_nop ?_
      refine r_reg ?_
      apply i_mov
      · exact tS rfl
      apply i_mov
      · exact tI rfl
      refine i_call (runs .ro 1 bs u S (.inl rfl) Rd.ro (by omega) hu'.1 hu'.2) rfl ?_
      rintro v S1 ⟨hst1, o1, s1, rfl, hr1, hs1⟩
      have hcv := cv_all bs u (by omega)
      have hll := runsOf_len bs u (by omega)
      have hw : ((min u.toNat bs.length : Nat) : Int) = min u (bs.length : Int) := by omega
      have hw0 : 0 < bs.length → 0 < min u.toNat bs.length := by omega
      have hwb : min u.toNat bs.length ≤ bs.length := by omega
      generalize min u.toNat bs.length = w at hcv hw hw0 hwb
      generalize runsOf bs u = l at hcv hs1 hll ⊢
      apply i_mov
      · exact tS rfl
      refine i_nil ?_
      refine r_reg ?_
      apply i_mov
      · exact tI rfl
      refine i_nil ?_
      refine r_reg ?_
      apply i_mov
      · exact tI rfl
      refine i_nil ?_
      refine r_block ?_
      refine r_loopP [0, 1, 5, 6, 7] (fun m G S' => ∃ (i at_ : Nat), G = [(0, .sl .ro 1 (u8s bs)), (1, .int .i64 u), (5, .sl o1 s1 (l.map rnAV)), (6, .int .i64 (at_ : Nat)), (7, .int .i64 (i : Nat))] ∧ m = l.length - i ∧ i ≤ l.length ∧ Cv bs u.toNat w (l.take i) at_ ∧ Rd S' o1) ?_ ?_
      · exact ⟨_, 0, 0, rfl, rfl, Nat.zero_le _, Cv.nil, hr1⟩
      rintro m G S2 ⟨i, at_, rfl, rfl, hi, hct, hr2⟩
      by_cases hc : i < l.length
      · obtain rfl : s1 = 3 := by
          rcases hs1 with h | h
          · exact h
          · subst h; simp at hc
        obtain ⟨ha, h1, h2, h3, h4, h5, h6⟩ := cv_at hcv hc hct
        have hrem : (at_ : Int).tmod u = 0 := by
          have e : u = ((u.toNat : Nat) : Int) := by omega
          rw [e]; exact Int.tmod_eq_zero_of_dvd (Int.ofNat_dvd.2 (Nat.dvd_of_mod_eq_zero h3))
        have hlen0 : (l[i].len : Int) ≤ bs.length - at_ := by omega
        obtain ⟨n, z, hli⟩ : ∃ n z, l[i] = ⟨at_, n, z⟩ := ⟨l[i].len, l[i].zero, by rw [← ha]⟩
        have hwn : w = 0 → False := fun h => by have := hw0 (by omega); omega
        by_cases hi0 : 0 < i
        · have hne := h4 hi0
          have hm : i - 1 < l.length := by omega
          refine r_reg ?_
          apply i_mov
          · exact tI rfl
          apply i_mov
          · exact tS rfl
          apply i_lenM
          · exact rfl
          apply i_ltT
          · exact rfl
          · exact rfl
          · omega
          refine i_nil ?_
          apply r_condT
          · exact rfl
          refine r_nop ?_
          refine r_block ?_
          refine r_reg ?_
          apply i_mov
          · exact tS rfl
          apply i_mov
          · exact tI rfl
          apply i_idxM
          · exact rfl
          · exact rfl
          · exact rfl
          · exact rfl
          · (refine Rd.rd ?_; assumption)
          · omega
          apply i_loadNM
          · exact rfl
          · (refine Rd.rd ?_; assumption)
          · omega
          · exact fun _ => rfl
          · exact fun _ => rfl
          (refine ⟨by omega, ?_⟩)
          refine i_alloc ?_
          apply i_stN
          · exact rfl
          · exact rfl
          · exact Ob.new
          · exact rfl
          · exact rfl
          · exact rfl
          refine i_nil ?_
          refine r_reg ?_
          apply i_fld0
          · exact rfl
          apply i_load
          · exact rfl
          · (apply Ob.put'; exact Ob.new)
          · exact rfl
          apply i_mov
          · exact tI rfl
          apply i_neF
          · exact rfl
          · exact rfl
          · omega
          apply i_mov
          · exact tB rfl
          apply i_gT
          · exact rfl
          apply i_fld0
          · exact rfl
          apply i_gT
          · exact rfl
          apply i_load
          · exact rfl
          · (apply Ob.put'; exact Ob.new)
          · exact rfl
          apply i_gT
          · exact rfl
          apply i_ltF
          · exact rfl
          · exact rfl
          · omega
          apply i_pickF
          · exact rfl
          · exact tB rfl
          apply i_mov
          · exact tB rfl
          apply i_gT
          · exact rfl
          apply i_fld0
          · exact rfl
          apply i_gT
          · exact rfl
          apply i_load
          · exact rfl
          · (apply Ob.put'; exact Ob.new)
          · exact rfl
          apply i_gT
          · exact rfl
          apply i_mov
          · exact tS rfl
          apply i_gT
          · exact rfl
          apply i_lenM
          · exact rfl
          apply i_gT
          · exact rfl
          apply i_mov
          · exact tI rfl
          apply i_gT
          · exact rfl
          apply i_sub
          · exact rfl
          · exact rfl
          · omega
          apply i_gT
          · exact rfl
          apply i_gtF
          · exact rfl
          · exact rfl
          · omega
          apply i_pickF
          · exact rfl
          · exact tB rfl
          apply i_mov
          · exact tB rfl
          apply i_gT
          · exact rfl
          apply i_mov
          · exact tI rfl
          apply i_gT
          · exact rfl
          apply i_mov
          · exact tI rfl
          apply i_gT
          · exact rfl
          refine i_rem rfl rfl (by omega) hrem ?_
          apply i_gT
          · exact rfl
          apply i_neF
          · exact rfl
          · exact rfl
          · omega
          apply i_pickF
          · exact rfl
          · exact tB rfl
          apply i_mov
          · exact tB rfl
          apply i_gT
          · exact rfl
          apply i_mov
          · exact tI rfl
          apply i_gT
          · exact rfl
          apply i_gtT
          · exact rfl
          · exact rfl
          · omega
          apply i_gT
          · exact rfl
          apply i_mov
          · exact tB rfl
          apply i_gT
          · exact rfl
          apply i_mov
          · exact tS rfl
          apply i_gT
          · exact rfl
          apply i_mov
          · exact tI rfl
          apply i_gT
          · exact rfl
          apply i_sub
          · exact rfl
          · exact rfl
          · omega
          apply i_gT
          · exact rfl
          refine i_idxM (i - 1) rfl rfl (by omega) rfl (by (refine Rd.rd ?_; (refine Rd.put ?_; refine Rd.push ?_; assumption))) hm ?_
          apply i_gT
          · exact rfl
          apply i_fldE0
          · exact rfl
          · (refine Rd.rd ?_; (refine Rd.put ?_; refine Rd.push ?_; assumption))
          apply i_gT
          · exact rfl
          apply i_loadF
          · exact rfl
          · (refine Rd.rd ?_; (refine Rd.put ?_; refine Rd.push ?_; assumption))
          · omega
          (refine ⟨by omega, ?_⟩)
          apply i_gT
          · exact rfl
          apply i_fld0
          · exact rfl
          apply i_gT
          · exact rfl
          apply i_load
          · exact rfl
          · (apply Ob.put'; exact Ob.new)
          · exact rfl
          apply i_gT
          · exact rfl
          apply i_eqbF
          · exact rfl
          · exact rfl
          · assumption
          apply i_gT
          · exact rfl
          apply i_pickT
          · exact rfl
          · exact tB rfl
          apply i_pickF
          · exact rfl
          · exact tB rfl
          apply i_mov
          · exact tB rfl
          apply i_gT
          · exact rfl
          apply i_fld0
          · exact rfl
          apply i_gT
          · exact rfl
          apply i_load
          · exact rfl
          · (apply Ob.put'; exact Ob.new)
          · exact rfl
          apply i_gT
          · exact rfl
          apply i_mov
          · exact tB rfl
          simp only [hli] at h1 h2 h5 h6 hlen0 ⊢
          clear hne h4
          cases z with
          | true =>
            have hzz : zeroL (List.drop at_ (List.take (at_ + n) bs)) = true := h5.1 rfl
            apply i_gT
            · exact rfl
            apply i_mov
            · exact tS rfl
            apply i_gT
            · exact rfl
            apply i_mov
            · exact tI rfl
            apply i_gT
            · exact rfl
            apply i_mov
            · exact tI rfl
            apply i_gT
            · exact rfl
            apply i_fld0
            · exact rfl
            apply i_gT
            · exact rfl
            apply i_load
            · exact rfl
            · (apply Ob.put'; exact Ob.new)
            · exact rfl
            apply i_gT
            · exact rfl
            dsimp only
            apply i_add
            · exact rfl
            · exact rfl
            · omega
            apply i_gT
            · exact rfl
            apply i_sliceLH
            · exact rfl
            · exact Or.inl rfl
            · exact True.intro
            · exact rfl
            · exact rfl
            · exact rfl
            · exact rfl
            · omega
            · omega
            apply i_gT
            · exact rfl
            apply i_mk1
            · exact tS rfl
            · exact rfl
            apply i_gT
            · exact rfl
            refine i_call (zero1 _ 1 _ _ (.inl rfl) (by exact Rd.ro) (by first | omega | (simp; omega))) rfl ?_
            rintro v S3 ⟨rfl, rfl⟩
            rw [hzz]
            apply i_gT
            · exact rfl
            apply i_notT
            · exact rfl
            apply i_gT
            · exact rfl
            apply i_pickT
            · exact rfl
            · exact tB rfl
            apply i_pickF
            · exact rfl
            · exact tB rfl
            refine i_nil ?_
            apply r_condF
            · exact rfl
            refine r_nop ?_
            refine r_reg ?_
            apply i_mov
            · exact tI rfl
            apply i_mov
            · exact tI rfl
            refine i_nil ?_
            refine r_block ?_
            have hob : ((S2.push [.int .i64 0, .int .i64 0, .bool false]).put S2.objs.length (rnC ⟨at_, n, true⟩)).objs[S2.objs.length]? = some [.int .i64 (at_ : Nat), .int .i64 (n : Nat), .bool true] := by (apply Ob.put'; exact Ob.new)
            have hr3 : Rd ((S2.push [.int .i64 0, .int .i64 0, .bool false]).put S2.objs.length (rnC ⟨at_, n, true⟩)) o1 := by (refine Rd.put ?_; refine Rd.push ?_; assumption)
            generalize ((S2.push [.int .i64 0, .int .i64 0, .bool false]).put S2.objs.length (rnC ⟨at_, n, true⟩)) = S3 at hob hr3 ⊢
            generalize S2.objs.length = o8 at hob ⊢
            refine r_loopP [0, 1, 5, 6, 7, 8, 9] (fun m G S' => G = [(0, .sl .ro 1 (u8s bs)), (1, .int .i64 u), (5, .sl o1 3 (l.map rnAV)), (6, .int .i64 (at_ : Nat)), (7, .int .i64 (i : Nat)), (8, .ptr (some (o8, 0))), (9, .int .i64 (at_ : Nat))] ∧ S' = S3) ?_ ?_
            · exact ⟨0, rfl, rfl⟩
            rintro m G S4 ⟨rfl, rfl⟩
            refine r_reg ?_
            apply i_mov
            · exact tI rfl
            apply i_mov
            · exact tI rfl
            apply i_fld0
            · exact rfl
            apply i_load
            · exact rfl
            · assumption
            · exact rfl
            apply i_add
            · exact rfl
            · exact rfl
            · omega
            apply i_ltT
            · exact rfl
            · exact rfl
            · omega
            apply i_mov
            · exact tB rfl
            apply i_gT
            · exact rfl
            apply i_fld0
            · exact rfl
            apply i_gT
            · exact rfl
            apply i_load
            · exact rfl
            · assumption
            · exact rfl
            apply i_gT
            · exact rfl
            apply i_notT
            · exact rfl
            apply i_pickT
            · exact rfl
            · exact tB rfl
            refine i_nil ?_
            apply r_condF
            · exact rfl
            refine r_exit ?_
            refine r_reg ?_
            apply i_mov
            · exact tI rfl
            apply i_fld0
            · exact rfl
            apply i_load
            · exact rfl
            · assumption
            · exact rfl
            apply i_add
            · exact rfl
            · exact rfl
            · omega
            apply i_mov
            · exact tI rfl
            refine i_nil ?_
            refine r_nop ?_
            refine r_reg ?_
            apply i_mov
            · exact tI rfl
            apply i_add
            · exact rfl
            · exact rfl
            · omega
            apply i_mov
            · exact tI rfl
            refine i_nil ?_
            refine r_nop ?_
            apply q_lp [0, 1, 5, 6, 7]
            · exact ⟨i + 1, at_ + n, rfl, rfl, hc, h6, hr3⟩
            · omega
          | false =>
            have hzz := h5.2 rfl
            simp only at hzz
            apply i_gF
            · exact rfl
            · exact rfl
            apply i_gF
            · exact rfl
            · exact rfl
            apply i_gF
            · exact rfl
            · exact rfl
            apply i_gF
            · exact rfl
            · exact rfl
            apply i_gF
            · exact rfl
            · exact rfl
            apply i_gF
            · exact rfl
            · exact rfl
            apply i_gF
            · exact rfl
            · exact rfl
            apply i_gF
            · exact rfl
            · exact rfl
            apply i_gF
            · exact rfl
            · exact rfl
            apply i_gF
            · exact rfl
            · exact rfl
            apply i_gT
            · exact rfl
            apply i_pickF
            · exact rfl
            · exact tB rfl
            apply i_pickF
            · exact rfl
            · exact tB rfl
            refine i_nil ?_
            apply r_condF
            · exact rfl
            refine r_nop ?_
            refine r_reg ?_
            apply i_mov
            · exact tI rfl
            apply i_mov
            · exact tI rfl
            refine i_nil ?_
            refine r_block ?_
            have hob : ((S2.push [.int .i64 0, .int .i64 0, .bool false]).put S2.objs.length (rnC ⟨at_, n, false⟩)).objs[S2.objs.length]? = some [.int .i64 (at_ : Nat), .int .i64 (n : Nat), .bool false] := by (apply Ob.put'; exact Ob.new)
            have hr3 : Rd ((S2.push [.int .i64 0, .int .i64 0, .bool false]).put S2.objs.length (rnC ⟨at_, n, false⟩)) o1 := by (refine Rd.put ?_; refine Rd.push ?_; assumption)
            generalize ((S2.push [.int .i64 0, .int .i64 0, .bool false]).put S2.objs.length (rnC ⟨at_, n, false⟩)) = S3 at hob hr3 ⊢
            generalize S2.objs.length = o8 at hob ⊢
            refine r_loopP [0, 1, 5, 6, 7, 8, 9] (fun m G S' => ∃ j : Nat, G = [(0, .sl .ro 1 (u8s bs)), (1, .int .i64 u), (5, .sl o1 3 (l.map rnAV)), (6, .int .i64 (at_ : Nat)), (7, .int .i64 (i : Nat)), (8, .ptr (some (o8, 0))), (9, .int .i64 ((at_ + j * w : Nat) : Int))] ∧ m = n - j * w ∧ j * w ≤ n + w ∧ S' = S3) ?_ ?_
            · exact ⟨_, 0, by rw [Nat.zero_mul, Nat.add_zero]; rfl, rfl, by omega, rfl⟩
            rintro m G S4 ⟨j, rfl, rfl, hjb, rfl⟩
            have hj1 : (j + 1) * w = j * w + w := by rw [Nat.add_mul, Nat.one_mul]
            have hzj := hzz j
            generalize j * w = q at hzj hjb hj1 ⊢
            by_cases hq : q < n
            · have hzq := hzj hq
              refine r_reg ?_
              apply i_mov
              · exact tI rfl
              apply i_mov
              · exact tI rfl
              apply i_fld0
              · exact rfl
              apply i_load
              · exact rfl
              · assumption
              · exact rfl
              apply i_add
              · exact rfl
              · exact rfl
              · omega
              apply i_ltT
              · exact rfl
              · exact rfl
              · omega
              apply i_mov
              · exact tB rfl
              apply i_gT
              · exact rfl
              apply i_fld0
              · exact rfl
              apply i_gT
              · exact rfl
              apply i_load
              · exact rfl
              · assumption
              · exact rfl
              apply i_gT
              · exact rfl
              apply i_notF
              · exact rfl
              apply i_pickT
              · exact rfl
              · exact tB rfl
              refine i_nil ?_
              apply r_condT
              · exact rfl
              refine r_nop ?_
              refine r_block ?_
              refine r_reg ?_
              apply i_mov
              · exact tS rfl
              apply i_mov
              · exact tI rfl
              apply i_mov
              · exact tI rfl
              apply i_mov
              · exact tI rfl
              apply i_mov
              · exact tS rfl
              apply i_lenM
              · exact rfl
              refine i_min rfl rfl ?_
              rw [← hw]
              apply i_add
              · exact rfl
              · exact rfl
              · omega
              apply i_mov
              · exact tI rfl
              apply i_fld0
              · exact rfl
              apply i_load
              · exact rfl
              · assumption
              · exact rfl
              apply i_add
              · exact rfl
              · exact rfl
              · omega
              refine i_min rfl rfl ?_
              refine i_sliceLH (at_ + q) (min (at_ + q + w) (at_ + n)) rfl (.inl rfl) (by exact True.intro) rfl rfl rfl (by omega) (by omega) (by omega) ?_
              apply i_mk1
              · exact tS rfl
              · exact rfl
              refine i_call (zero1 _ 1 _ _ (.inl rfl) (by exact Rd.ro) (by first | omega | (simp; omega))) rfl ?_
              rintro v S3 ⟨rfl, rfl⟩
              rw [show zeroL (List.drop (at_ + q) (List.take (min (at_ + q + w) (at_ + n)) bs)) = false from hzq]
              refine i_nil ?_
              apply r_condF
              · exact rfl
              refine r_nop ?_
              refine r_nop ?_
              refine r_reg ?_
              apply i_mov
              · exact tI rfl
              apply i_mov
              · exact tI rfl
              apply i_mov
              · exact tS rfl
              apply i_lenM
              · exact rfl
              refine i_min rfl rfl ?_
              rw [← hw]
              apply i_add
              · exact rfl
              · exact rfl
              · omega
              apply i_mov
              · exact tI rfl
              refine i_nil ?_
              refine r_nop ?_
              apply q_l
              · exact ⟨j + 1, rfl, rfl, by omega, rfl⟩
              · omega
              · exact ⟨rfl, rfl, rfl, rfl, rfl, rfl, int_eq (by omega), trivial⟩
            · refine r_reg ?_
              apply i_mov
              · exact tI rfl
              apply i_mov
              · exact tI rfl
              apply i_fld0
              · exact rfl
              apply i_load
              · exact rfl
              · assumption
              · exact rfl
              apply i_add
              · exact rfl
              · exact rfl
              · omega
              apply i_ltF
              · exact rfl
              · exact rfl
              · omega
              apply i_mov
              · exact tB rfl
              apply i_gF
              · exact rfl
              · exact rfl
              apply i_gF
              · exact rfl
              · exact rfl
              apply i_gF
              · exact rfl
              · exact rfl
              apply i_pickF
              · exact rfl
              · exact tB rfl
              refine i_nil ?_
              apply r_condF
              · exact rfl
              refine r_exit ?_
              refine r_reg ?_
              apply i_mov
              · exact tI rfl
              apply i_fld0
              · exact rfl
              apply i_load
              · exact rfl
              · assumption
              · exact rfl
              apply i_add
              · exact rfl
              · exact rfl
              · omega
              apply i_mov
              · exact tI rfl
              refine i_nil ?_
              refine r_nop ?_
              refine r_reg ?_
              apply i_mov
              · exact tI rfl
              apply i_add
              · exact rfl
              · exact rfl
              · omega
              apply i_mov
              · exact tI rfl
              refine i_nil ?_
              refine r_nop ?_
              apply q_lp [0, 1, 5, 6, 7]
              · exact ⟨i + 1, at_ + n, rfl, rfl, hc, h6, hr3⟩
              · omega
        · refine r_reg ?_
          apply i_mov
          · exact tI rfl
          apply i_mov
          · exact tS rfl
          apply i_lenM
          · exact rfl
          apply i_ltT
          · exact rfl
          · exact rfl
          · omega
          refine i_nil ?_
          apply r_condT
          · exact rfl
          refine r_nop ?_
          refine r_block ?_
          refine r_reg ?_
          apply i_mov
          · exact tS rfl
          apply i_mov
          · exact tI rfl
          apply i_idxM
          · exact rfl
          · exact rfl
          · exact rfl
          · exact rfl
          · (refine Rd.rd ?_; assumption)
          · omega
          apply i_loadNM
          · exact rfl
          · (refine Rd.rd ?_; assumption)
          · omega
          · exact fun _ => rfl
          · exact fun _ => rfl
          (refine ⟨by omega, ?_⟩)
          refine i_alloc ?_
          apply i_stN
          · exact rfl
          · exact rfl
          · exact Ob.new
          · exact rfl
          · exact rfl
          · exact rfl
          refine i_nil ?_
          refine r_reg ?_
          apply i_fld0
          · exact rfl
          apply i_load
          · exact rfl
          · (apply Ob.put'; exact Ob.new)
          · exact rfl
          apply i_mov
          · exact tI rfl
          apply i_neF
          · exact rfl
          · exact rfl
          · omega
          apply i_mov
          · exact tB rfl
          apply i_gT
          · exact rfl
          apply i_fld0
          · exact rfl
          apply i_gT
          · exact rfl
          apply i_load
          · exact rfl
          · (apply Ob.put'; exact Ob.new)
          · exact rfl
          apply i_gT
          · exact rfl
          apply i_ltF
          · exact rfl
          · exact rfl
          · omega
          apply i_pickF
          · exact rfl
          · exact tB rfl
          apply i_mov
          · exact tB rfl
          apply i_gT
          · exact rfl
          apply i_fld0
          · exact rfl
          apply i_gT
          · exact rfl
          apply i_load
          · exact rfl
          · (apply Ob.put'; exact Ob.new)
          · exact rfl
          apply i_gT
          · exact rfl
          apply i_mov
          · exact tS rfl
          apply i_gT
          · exact rfl
          apply i_lenM
          · exact rfl
          apply i_gT
          · exact rfl
          apply i_mov
          · exact tI rfl
          apply i_gT
          · exact rfl
          apply i_sub
          · exact rfl
          · exact rfl
          · omega
          apply i_gT
          · exact rfl
          apply i_gtF
          · exact rfl
          · exact rfl
          · omega
          apply i_pickF
          · exact rfl
          · exact tB rfl
          apply i_mov
          · exact tB rfl
          apply i_gT
          · exact rfl
          apply i_mov
          · exact tI rfl
          apply i_gT
          · exact rfl
          apply i_mov
          · exact tI rfl
          apply i_gT
          · exact rfl
          refine i_rem rfl rfl (by omega) hrem ?_
          apply i_gT
          · exact rfl
          apply i_neF
          · exact rfl
          · exact rfl
          · omega
          apply i_pickF
          · exact rfl
          · exact tB rfl
          apply i_mov
          · exact tB rfl
          apply i_gT
          · exact rfl
          apply i_mov
          · exact tI rfl
          apply i_gT
          · exact rfl
          apply i_gtF
          · exact rfl
          · exact rfl
          · omega
          apply i_gT
          · exact rfl
          apply i_mov
          · exact tB rfl
          apply i_gF
          · exact rfl
          · exact rfl
          apply i_gF
          · exact rfl
          · exact rfl
          apply i_gF
          · exact rfl
          · exact rfl
          apply i_gF
          · exact rfl
          · exact rfl
          apply i_gF
          · exact rfl
          · exact rfl
          apply i_gF
          · exact rfl
          · exact rfl
          apply i_gF
          · exact rfl
          · exact rfl
          apply i_gF
          · exact rfl
          · exact rfl
          apply i_gF
          · exact rfl
          · exact rfl
          apply i_gT
          · exact rfl
          apply i_pickF
          · exact rfl
          · exact tB rfl
          apply i_pickF
          · exact rfl
          · exact tB rfl
          apply i_mov
          · exact tB rfl
          apply i_gT
          · exact rfl
          apply i_fld0
          · exact rfl
          apply i_gT
          · exact rfl
          apply i_load
          · exact rfl
          · (apply Ob.put'; exact Ob.new)
          · exact rfl
          apply i_gT
          · exact rfl
          apply i_mov
          · exact tB rfl
          simp only [hli] at h1 h2 h5 h6 hlen0 ⊢
          clear h4
          cases z with
          | true =>
            have hzz : zeroL (List.drop at_ (List.take (at_ + n) bs)) = true := h5.1 rfl
            apply i_gT
            · exact rfl
            apply i_mov
            · exact tS rfl
            apply i_gT
            · exact rfl
            apply i_mov
            · exact tI rfl
            apply i_gT
            · exact rfl
            apply i_mov
            · exact tI rfl
            apply i_gT
            · exact rfl
            apply i_fld0
            · exact rfl
            apply i_gT
            · exact rfl
            apply i_load
            · exact rfl
            · (apply Ob.put'; exact Ob.new)
            · exact rfl
            apply i_gT
            · exact rfl
            dsimp only
            apply i_add
            · exact rfl
            · exact rfl
            · omega
            apply i_gT
            · exact rfl
            apply i_sliceLH
            · exact rfl
            · exact Or.inl rfl
            · exact True.intro
            · exact rfl
            · exact rfl
            · exact rfl
            · exact rfl
            · omega
            · omega
            apply i_gT
            · exact rfl
            apply i_mk1
            · exact tS rfl
            · exact rfl
            apply i_gT
            · exact rfl
            refine i_call (zero1 _ 1 _ _ (.inl rfl) (by exact Rd.ro) (by first | omega | (simp; omega))) rfl ?_
            rintro v S3 ⟨rfl, rfl⟩
            rw [hzz]
            apply i_gT
            · exact rfl
            apply i_notT
            · exact rfl
            apply i_gT
            · exact rfl
            apply i_pickT
            · exact rfl
            · exact tB rfl
            apply i_pickF
            · exact rfl
            · exact tB rfl
            refine i_nil ?_
            apply r_condF
            · exact rfl
            refine r_nop ?_
            refine r_reg ?_
            apply i_mov
            · exact tI rfl
            apply i_mov
            · exact tI rfl
            refine i_nil ?_
            refine r_block ?_
            have hob : ((S2.push [.int .i64 0, .int .i64 0, .bool false]).put S2.objs.length (rnC ⟨at_, n, true⟩)).objs[S2.objs.length]? = some [.int .i64 (at_ : Nat), .int .i64 (n : Nat), .bool true] := by (apply Ob.put'; exact Ob.new)
            have hr3 : Rd ((S2.push [.int .i64 0, .int .i64 0, .bool false]).put S2.objs.length (rnC ⟨at_, n, true⟩)) o1 := by (refine Rd.put ?_; refine Rd.push ?_; assumption)
            generalize ((S2.push [.int .i64 0, .int .i64 0, .bool false]).put S2.objs.length (rnC ⟨at_, n, true⟩)) = S3 at hob hr3 ⊢
            generalize S2.objs.length = o8 at hob ⊢
            refine r_loopP [0, 1, 5, 6, 7, 8, 9] (fun m G S' => G = [(0, .sl .ro 1 (u8s bs)), (1, .int .i64 u), (5, .sl o1 3 (l.map rnAV)), (6, .int .i64 (at_ : Nat)), (7, .int .i64 (i : Nat)), (8, .ptr (some (o8, 0))), (9, .int .i64 (at_ : Nat))] ∧ S' = S3) ?_ ?_
            · exact ⟨0, rfl, rfl⟩
            rintro m G S4 ⟨rfl, rfl⟩
            refine r_reg ?_
            apply i_mov
            · exact tI rfl
            apply i_mov
            · exact tI rfl
            apply i_fld0
            · exact rfl
            apply i_load
            · exact rfl
            · assumption
            · exact rfl
            apply i_add
            · exact rfl
            · exact rfl
            · omega
            apply i_ltT
            · exact rfl
            · exact rfl
            · omega
            apply i_mov
            · exact tB rfl
            apply i_gT
            · exact rfl
            apply i_fld0
            · exact rfl
            apply i_gT
            · exact rfl
            apply i_load
            · exact rfl
            · assumption
            · exact rfl
            apply i_gT
            · exact rfl
            apply i_notT
            · exact rfl
            apply i_pickT
            · exact rfl
            · exact tB rfl
            refine i_nil ?_
            apply r_condF
            · exact rfl
            refine r_exit ?_
            refine r_reg ?_
            apply i_mov
            · exact tI rfl
            apply i_fld0
            · exact rfl
            apply i_load
            · exact rfl
            · assumption
            · exact rfl
            apply i_add
            · exact rfl
            · exact rfl
            · omega
            apply i_mov
            · exact tI rfl
            refine i_nil ?_
            refine r_nop ?_
            refine r_reg ?_
            apply i_mov
            · exact tI rfl
            apply i_add
            · exact rfl
            · exact rfl
            · omega
            apply i_mov
            · exact tI rfl
            refine i_nil ?_
            refine r_nop ?_
            apply q_lp [0, 1, 5, 6, 7]
            · exact ⟨i + 1, at_ + n, rfl, rfl, hc, h6, hr3⟩
            · omega
          | false =>
            have hzz := h5.2 rfl
            simp only at hzz
            apply i_gF
            · exact rfl
            · exact rfl
            apply i_gF
            · exact rfl
            · exact rfl
            apply i_gF
            · exact rfl
            · exact rfl
            apply i_gF
            · exact rfl
            · exact rfl
            apply i_gF
            · exact rfl
            · exact rfl
            apply i_gF
            · exact rfl
            · exact rfl
            apply i_gF
            · exact rfl
            · exact rfl
            apply i_gF
            · exact rfl
            · exact rfl
            apply i_gF
            · exact rfl
            · exact rfl
            apply i_gF
            · exact rfl
            · exact rfl
            apply i_gT
            · exact rfl
            apply i_pickF
            · exact rfl
            · exact tB rfl
            apply i_pickF
            · exact rfl
            · exact tB rfl
            refine i_nil ?_
            apply r_condF
            · exact rfl
            refine r_nop ?_
            refine r_reg ?_
            apply i_mov
            · exact tI rfl
            apply i_mov
            · exact tI rfl
            refine i_nil ?_
            refine r_block ?_
            have hob : ((S2.push [.int .i64 0, .int .i64 0, .bool false]).put S2.objs.length (rnC ⟨at_, n, false⟩)).objs[S2.objs.length]? = some [.int .i64 (at_ : Nat), .int .i64 (n : Nat), .bool false] := by (apply Ob.put'; exact Ob.new)
            have hr3 : Rd ((S2.push [.int .i64 0, .int .i64 0, .bool false]).put S2.objs.length (rnC ⟨at_, n, false⟩)) o1 := by (refine Rd.put ?_; refine Rd.push ?_; assumption)
            generalize ((S2.push [.int .i64 0, .int .i64 0, .bool false]).put S2.objs.length (rnC ⟨at_, n, false⟩)) = S3 at hob hr3 ⊢
            generalize S2.objs.length = o8 at hob ⊢
            refine r_loopP [0, 1, 5, 6, 7, 8, 9] (fun m G S' => ∃ j : Nat, G = [(0, .sl .ro 1 (u8s bs)), (1, .int .i64 u), (5, .sl o1 3 (l.map rnAV)), (6, .int .i64 (at_ : Nat)), (7, .int .i64 (i : Nat)), (8, .ptr (some (o8, 0))), (9, .int .i64 ((at_ + j * w : Nat) : Int))] ∧ m = n - j * w ∧ j * w ≤ n + w ∧ S' = S3) ?_ ?_
            · exact ⟨_, 0, by rw [Nat.zero_mul, Nat.add_zero]; rfl, rfl, by omega, rfl⟩
            rintro m G S4 ⟨j, rfl, rfl, hjb, rfl⟩
            have hj1 : (j + 1) * w = j * w + w := by rw [Nat.add_mul, Nat.one_mul]
            have hzj := hzz j
            generalize j * w = q at hzj hjb hj1 ⊢
            by_cases hq : q < n
            · have hzq := hzj hq
              refine r_reg ?_
              apply i_mov
              · exact tI rfl
              apply i_mov
              · exact tI rfl
              apply i_fld0
              · exact rfl
              apply i_load
              · exact rfl
              · assumption
              · exact rfl
              apply i_add
              · exact rfl
              · exact rfl
              · omega
              apply i_ltT
              · exact rfl
              · exact rfl
              · omega
              apply i_mov
              · exact tB rfl
              apply i_gT
              · exact rfl
              apply i_fld0
              · exact rfl
              apply i_gT
              · exact rfl
              apply i_load
              · exact rfl
              · assumption
              · exact rfl
              apply i_gT
              · exact rfl
              apply i_notF
              · exact rfl
              apply i_pickT
              · exact rfl
              · exact tB rfl
              refine i_nil ?_
              apply r_condT
              · exact rfl
              refine r_nop ?_
              refine r_block ?_
              refine r_reg ?_
              apply i_mov
              · exact tS rfl
              apply i_mov
              · exact tI rfl
              apply i_mov
              · exact tI rfl
              apply i_mov
              · exact tI rfl
              apply i_mov
              · exact tS rfl
              apply i_lenM
              · exact rfl
              refine i_min rfl rfl ?_
              rw [← hw]
              apply i_add
              · exact rfl
              · exact rfl
              · omega
              apply i_mov
              · exact tI rfl
              apply i_fld0
              · exact rfl
              apply i_load
              · exact rfl
              · assumption
              · exact rfl
              apply i_add
              · exact rfl
              · exact rfl
              · omega
              refine i_min rfl rfl ?_
              refine i_sliceLH (at_ + q) (min (at_ + q + w) (at_ + n)) rfl (.inl rfl) (by exact True.intro) rfl rfl rfl (by omega) (by omega) (by omega) ?_
              apply i_mk1
              · exact tS rfl
              · exact rfl
              refine i_call (zero1 _ 1 _ _ (.inl rfl) (by exact Rd.ro) (by first | omega | (simp; omega))) rfl ?_
              rintro v S3 ⟨rfl, rfl⟩
              rw [show zeroL (List.drop (at_ + q) (List.take (min (at_ + q + w) (at_ + n)) bs)) = false from hzq]
              refine i_nil ?_
              apply r_condF
              · exact rfl
              refine r_nop ?_
              refine r_nop ?_
              refine r_reg ?_
              apply i_mov
              · exact tI rfl
              apply i_mov
              · exact tI rfl
              apply i_mov
              · exact tS rfl
              apply i_lenM
              · exact rfl
              refine i_min rfl rfl ?_
              rw [← hw]
              apply i_add
              · exact rfl
              · exact rfl
              · omega
              apply i_mov
              · exact tI rfl
              refine i_nil ?_
              refine r_nop ?_
              apply q_l
              · exact ⟨j + 1, rfl, rfl, by omega, rfl⟩
              · omega
              · exact ⟨rfl, rfl, rfl, rfl, rfl, rfl, int_eq (by omega), trivial⟩
            · refine r_reg ?_
              apply i_mov
              · exact tI rfl
              apply i_mov
              · exact tI rfl
              apply i_fld0
              · exact rfl
              apply i_load
              · exact rfl
              · assumption
              · exact rfl
              apply i_add
              · exact rfl
              · exact rfl
              · omega
              apply i_ltF
              · exact rfl
              · exact rfl
              · omega
              apply i_mov
              · exact tB rfl
              apply i_gF
              · exact rfl
              · exact rfl
              apply i_gF
              · exact rfl
              · exact rfl
              apply i_gF
              · exact rfl
              · exact rfl
              apply i_pickF
              · exact rfl
              · exact tB rfl
              refine i_nil ?_
              apply r_condF
              · exact rfl
              refine r_exit ?_
              refine r_reg ?_
              apply i_mov
              · exact tI rfl
              apply i_fld0
              · exact rfl
              apply i_load
              · exact rfl
              · assumption
              · exact rfl
              apply i_add
              · exact rfl
              · exact rfl
              · omega
              apply i_mov
              · exact tI rfl
              refine i_nil ?_
              refine r_nop ?_
              refine r_reg ?_
              apply i_mov
              · exact tI rfl
              apply i_add
              · exact rfl
              · exact rfl
              · omega
              apply i_mov
              · exact tI rfl
              refine i_nil ?_
              refine r_nop ?_
              apply q_lp [0, 1, 5, 6, 7]
              · exact ⟨i + 1, at_ + n, rfl, rfl, hc, h6, hr3⟩
              · omega
      · have e : i = l.length := by omega
        subst e
        rw [List.take_length] at hct
        have e2 := hct.fun hcv
        refine r_reg ?_
        apply i_mov
        · exact tI rfl
        apply i_mov
        · exact tS rfl
        apply i_lenM
        · exact rfl
        apply i_ltF
        · exact rfl
        · exact rfl
        · omega
        refine i_nil ?_
        apply r_condF
        · exact rfl
        refine r_exit ?_
        refine r_reg ?_
        apply i_mov
        · exact tI rfl
        apply i_mov
        · exact tS rfl
        apply i_lenM
        · exact rfl
        apply i_eqT
        · exact rfl
        · exact rfl
        · omega
        apply i_mov
        · exact tB rfl
        apply i_gT
        · exact rfl
        refine i_call (runsRuns _) rfl ?_
        rintro v S4 ⟨rfl, hst4⟩
        apply i_pickT
        · exact rfl
        · exact tB rfl
        apply i_mov
        · exact tB rfl
        refine i_nil ?_
        refine r_ret ?_
        apply q_ret1
        · exact tB rfl
        rfl
  · refine r_reg ?_
    apply i_mov
    · exact tB rfl
    refine i_nil ?_
    refine r_reg ?_
    apply i_mov
    · exact tS rfl
    apply i_lenM
    · exact rfl
    apply i_gtT
    · exact rfl
    · exact rfl
    · omega
    apply i_mov
    · exact tB rfl
    apply i_gF
    · exact rfl
    · exact rfl
    apply i_gF
    · exact rfl
    · exact rfl
    apply i_pickT
    · exact rfl
    · exact tB rfl
    refine i_nil ?_
    apply r_condT
    · exact rfl
    refine r_reg ?_
    refine i_call (runsRuns _) rfl ?_
    rintro v S4 ⟨rfl, hst4⟩
    apply i_mov
    · exact tB rfl
    refine i_nil ?_
    refine r_ret ?_
    refine q_kr ?_
    apply q_ret1
    · exact tB rfl
    rfl
end Go.Proofs.Ythgdooidleoicaa.Abs
