/- The law FixedPieces: that it answers true. -/
import Derived.Test.YtmfkocmbmadkmaaFixed7
namespace Go.Proofs.Ytmfkocmbmadkmaa.Abs
open Go Go.Proofs
set_option linter.unusedVariables false
set_option linter.unusedSimpArgs false
attribute [local irreducible] wpI wpR ropK chk ASt.push ASt.put ASt.fresh ASt.kill appS

theorem packR (cbs : Int) (ls : List (List UInt8)) (S : ASt) (hn : ls.length ≤ 100000000) (hb : ls.flatten.length ≤ 10000) :
    ACalls Try.prog 24 [.int .i64 cbs, .sl .ro 1 (ls.map rov)] S fun v S' => v = .tuple [.str (packAll (heldC cbs) ls.flatten).out, .int .i64 ((packAll (heldC cbs) ls.flatten).cut : Nat)] ∧ Stays S S' [] := by
  have := packS cbs .ro (bls ls) S Rd.ro (bls_ok ls S) (by simpa [bls] using hn) (by rw [bls_cat]; exact hb)
  rwa [bls_slv, bls_cat] at this
theorem unpackR (cbs : Int) (ls : List (List UInt8)) (S : ASt) (hn : ls.length ≤ 100000000) (hb : ls.flatten.length ≤ 10000) :
    ACalls Try.prog 25 [.int .i64 cbs, .sl .ro 1 (ls.map rov)] S fun v S' => v = .str (unpackAll (heldC cbs) ls.flatten).out ∧ Stays S S' [] := by
  have := unpackS cbs .ro (bls ls) S Rd.ro (bls_ok ls S) (by simpa [bls] using hn) (by rw [bls_cat]; exact hb)
  rwa [bls_slv, bls_cat] at this
theorem pack1 (cbs : Int) (o : Own) (sz : Nat) (l : List UInt8) (S : ASt) (hs : sz = 1 ∨ l = []) (hn : o = .nil → l = []) (hr : Rd S o) (hb : l.length ≤ 10000) :
    ACalls Try.prog 24 [.int .i64 cbs, .sl .ro 1 [.sl o sz (u8s l)]] S fun v S' => v = .tuple [.str (packAll (heldC cbs) l).out, .int .i64 ((packAll (heldC cbs) l).cut : Nat)] ∧ Stays S S' [] := by
  have := packS cbs .ro [⟨o, sz, l⟩] S Rd.ro (one_ok hs hn hr) (by simp) (by rw [one_cat]; exact hb)
  rwa [one_cat] at this
theorem unpack1 (cbs : Int) (o : Own) (sz : Nat) (l : List UInt8) (S : ASt) (hs : sz = 1 ∨ l = []) (hn : o = .nil → l = []) (hr : Rd S o) (hb : l.length ≤ 10000) :
    ACalls Try.prog 25 [.int .i64 cbs, .sl .ro 1 [.sl o sz (u8s l)]] S fun v S' => v = .str (unpackAll (heldC cbs) l).out ∧ Stays S S' [] := by
  have := unpackS cbs .ro [⟨o, sz, l⟩] S Rd.ro (one_ok hs hn hr) (by simp) (by rw [one_cat]; exact hb)
  rwa [one_cat] at this

theorem fixedPieces (cbs : Int) (ls : List (List UInt8)) (S : ASt) :
    ACalls Try.prog 6 [.int .i64 cbs, .sl .ro 1 (ls.map rov)] S fun v S' => v = .bool true := by
  refine en_6 (by exact Nat.le_of_ble_eq_true rfl) ?_
  unfold rc_6
  refine r_reg ?_
  apply i_mov
  · exact tB rfl
  refine i_nil ?_
  refine r_reg ?_
  apply i_mov
  · exact tI rfl
  apply i_mov
  · exact tS rfl
  refine i_call (few cbs ls _) rfl ?_
  rintro v S1 ⟨b, rfl, rfl, hb⟩
  cases b with
  | false =>
    apply i_notF
    · exact rfl
    refine i_nil ?_
    apply r_condT
    · exact rfl
    refine r_reg ?_
    refine i_call (fixedRuns _) rfl ?_
    rintro v S2 ⟨rfl, hst⟩
    apply i_mov
    · exact tB rfl
    refine i_nil ?_
    refine r_ret ?_
    refine q_kr ?_
    apply q_ret1
    · exact tB rfl
    rfl
  | true =>
    obtain ⟨h60, h3000⟩ := hb rfl
    clear hb
    apply i_notT
    · exact rfl
    refine i_nil ?_
    apply r_condF
    · exact rfl
    refine r_nop ?_
    refine r_reg ?_
    apply i_mov
    · exact tS0 rfl
    refine i_nil ?_
    refine r_reg ?_
    apply i_mov
    · exact tI rfl
    refine i_nil ?_
    refine r_block ?_
    refine r_loopP [0, 1, 5, 6] (fun m G S' => ∃ (i : Nat) (o : Own) (sz : Nat), G = [(0, .int .i64 cbs), (1, .sl .ro 1 (ls.map rov)), (5, .sl o sz (u8s (ls.take i).flatten)), (6, .int .i64 (i : Nat))] ∧ m = ls.length - i ∧ i ≤ ls.length ∧
      App S' o 1 sz (ls.take i).flatten.length) ?_ ?_
    · exact ⟨_, 0, _, _, rfl, rfl, Nat.zero_le _, App.none⟩
    rintro m G S2 ⟨i, o, sz, rfl, rfl, hi, ha⟩
    have hfl := flat_le ls i
    by_cases hc : i < ls.length
    · have hct := flat_take hc
      have hm := flat_mem hc
      refine r_reg ?_
      apply i_mov
      · exact tI rfl
      apply i_mov
      · exact tS rfl
      apply i_lenM
      · exact rfl
      apply i_ltT
      · exact rfl
      · exact rfl
      · omega
      refine i_nil ?_
      apply r_condT
      · exact rfl
      refine r_nop ?_
      refine r_block ?_
      refine r_reg ?_
      apply i_mov
      · exact tS rfl
      apply i_mov
      · exact tS rfl
      apply i_mov
      · exact tI rfl
      apply i_idxM
      · exact rfl
      · exact rfl
      · exact rfl
      · exact rfl
      · exact True.intro
      · omega
      apply i_loadM
      · exact rfl
      · exact True.intro
      · omega
      · exact fun _ => rfl
      (refine ⟨by omega, ?_⟩)
      apply i_appX
      · exact rfl
      · exact rfl
      · assumption
      · exact Or.inl rfl
      · exact True.intro
      · omega
      apply i_mov
      · exact tS rfl
      refine i_nil ?_
      refine r_nop ?_
      refine r_reg ?_
      apply i_mov
      · exact tI rfl
      apply i_add
      · exact rfl
      · exact rfl
      · omega
      apply i_mov
      · exact tI rfl
      refine i_nil ?_
      refine r_nop ?_
      apply q_l
      · exact ⟨i + 1, _, _, rfl, rfl, hc, App.new⟩
      · omega
      · exact ⟨rfl, rfl, by rw [hct]; rfl, rfl, trivial⟩
    · have e : i = ls.length := by omega
      subst e
      rw [List.take_length] at ha ⊢
      have hr := ha.rd
      have hs : sz = 1 ∨ ls.flatten = [] := ha.sz.imp id (fun h => List.length_eq_zero_iff.1 h)
      have hn : o = .nil → ls.flatten = [] := fun h => List.length_eq_zero_iff.1 (ha.nil h)
      refine r_reg ?_
      apply i_mov
      · exact tI rfl
      apply i_mov
      · exact tS rfl
      apply i_lenM
      · exact rfl
      apply i_ltF
      · exact rfl
      · exact rfl
      · omega
      refine i_nil ?_
      apply r_condF
      · exact rfl
      refine r_exit ?_
      refine r_reg ?_
      apply i_mov
      · exact tI rfl
      apply i_mov
      · exact tS rfl
      refine i_call (packR cbs ls _ (by omega) (by omega)) rfl ?_
      rintro v S3 ⟨rfl, hst3⟩
      have hr3 := hr.stays hst3
      apply i_mov
      · exact tT rfl
      apply i_ext
      · exact rfl
      · exact rfl
      apply i_ext
      · exact rfl
      · exact rfl
      apply i_mov
      · exact tC rfl
      apply i_mov
      · exact tI rfl
      refine i_nil ?_
      refine r_reg ?_
      apply i_mov
      · exact tI rfl
      apply i_mov
      · exact tS rfl
      apply i_mk1
      · exact tS rfl
      · exact rfl
      refine i_call (pack1 cbs o sz ls.flatten _ hs hn hr3 (by omega)) rfl ?_
      rintro v S4 ⟨rfl, hst4⟩
      have hr4 := hr3.stays hst4
      apply i_mov
      · exact tT rfl
      apply i_ext
      · exact rfl
      · exact rfl
      apply i_ext
      · exact rfl
      · exact rfl
      apply i_mov
      · exact tC rfl
      apply i_mov
      · exact tI rfl
      refine i_nil ?_
      refine r_reg ?_
      apply i_mov
      · exact tC rfl
      apply i_mov
      · exact tC rfl
      apply i_seT
      · exact rfl
      · exact rfl
      · exact rfl
      apply i_mov
      · exact tB rfl
      apply i_gT
      · exact rfl
      apply i_mov
      · exact tI rfl
      apply i_gT
      · exact rfl
      apply i_mov
      · exact tI rfl
      apply i_gT
      · exact rfl
      apply i_eqT
      · exact rfl
      · exact rfl
      · omega
      apply i_pickT
      · exact rfl
      · exact tB rfl
      apply i_mov
      · exact tB rfl
      apply i_gT
      · exact rfl
      apply i_mov
      · exact tI rfl
      apply i_gT
      · exact rfl
      apply i_mov
      · exact tS rfl
      apply i_gT
      · exact rfl
      refine i_call (unpackR cbs ls _ (by omega) (by omega)) rfl ?_
      rintro v S5 ⟨rfl, hst5⟩
      have hr5 := hr4.stays hst5
      apply i_gT
      · exact rfl
      apply i_mov
      · exact tI rfl
      apply i_gT
      · exact rfl
      apply i_mov
      · exact tS rfl
      apply i_gT
      · exact rfl
      apply i_mk1
      · exact tS rfl
      · exact rfl
      apply i_gT
      · exact rfl
      refine i_call (unpack1 cbs o sz ls.flatten _ hs hn hr5 (by omega)) rfl ?_
      rintro v S6 ⟨rfl, hst6⟩
      apply i_gT
      · exact rfl
      apply i_seT
      · exact rfl
      · exact rfl
      · exact rfl
      apply i_pickT
      · exact rfl
      · exact tB rfl
      apply i_mov
      · exact tB rfl
      apply i_gT
      · exact rfl
      refine i_call (fixedRuns _) rfl ?_
      rintro v S7 ⟨rfl, hst7⟩
      apply i_pickT
      · exact rfl
      · exact tB rfl
      apply i_mov
      · exact tB rfl
      refine i_nil ?_
      refine r_ret ?_
      apply q_ret1
      · exact tB rfl
      rfl
end Go.Proofs.Ytmfkocmbmadkmaa.Abs
