/- bytes.Repeat of one byte, at most 4096 times: a new slice that nobody writes. -/
import Derived.Test.YthpomdoaiibnfaaRep1
import Derived.Lib.SlBuf
import Derived.Lib.MakeNoZero
import Derived.Deep.LoopGhost
import Derived.Laws.Externs
import Derived.BigCall
import Derived.BigGuard
import Derived.Shelf.RegionOpenPlain
import Derived.Deep.Draws
namespace Go.Proofs.Ythpomdoaiibnfaa.Abs
open Go Go.Proofs Go.RowKit Go.Lib
set_option linter.unusedVariables false
set_option linter.unusedSimpArgs false
set_option linter.unusedSimpArgs false
attribute [local irreducible] wpI wpR ropK chk ASt.push ASt.put ASt.fresh ASt.kill appS

/-- A new block that nobody will write, and perhaps more new blocks. -/
theorem step_ro2 {E : Env} {S : ASt} {w w' : World} (h : Rel E S w) (hb : Below w.heap.size w w') (hs : w.heap.size < w'.heap.size) :
    Evolves E S w (E.addRo w.heap.size) S w' ∧ Rel (E.addRo w.heap.size) S w' := by
  have hold : ∀ b, b < w.heap.size → w'.heap[b]? = w.heap[b]? := hb.block
  have ev : Evolves E S w (E.addRo w.heap.size) S w' :=
    ⟨hb.os, hb.tape, hb.output, by omega, fun b hb => ⟨.inl hb, hold _ (h.ro_lt b hb)⟩, Nat.le_refl _, fun _ _ => rfl, Nat.le_refl _,
      fun t _ hl => ⟨hl, ⟨rfl, rfl⟩, fun b hb => hold _ (h.tok t b hl hb).1⟩, fun _ h1 h2 => absurd h1 (by omega),
      fun t _ h1 h2 => absurd (h.live_lt t h2) (by omega), fun b hb => .inl (hold _ hb)⟩
  have hobj : ∀ o', o' < S.objs.length → E.mu o' < w.heap.size := fun o' ho' => h.mu_lt ho'
  refine ⟨ev, ⟨?_, ?_, ?_, h.obj_inj, ?_, h.tok_inj, h.live_lt⟩⟩
  · rintro b (hb | rfl)
    · have := h.ro_lt b hb; omega
    · omega
  · intro o' cs hcs
    obtain ⟨cur, e, h1, h2, h3⟩ := h.obj o' cs hcs
    refine ⟨cur, e, ?_, h2, fun i u hu => ⟨(h3 i u hu).1, (h3 i u hu).2.mono ev⟩⟩
    show w'.heap[E.mu o']? = _
    rw [hold _ (Array.getElem?_eq_some_iff.1 h1).1]; exact h1
  · intro o' ho' hx
    rcases hx with hx | hx
    · exact h.obj_ro o' ho' hx
    · have := hobj o' ho'; have hx' : E.mu o' = w.heap.size := hx; omega
  · intro t b hl hb
    obtain ⟨a1, a2, a3⟩ := h.tok t b hl hb
    refine ⟨by omega, ?_, a3⟩
    rintro (hx | hx)
    · exact a2 hx
    · omega

/-- 'copy(b[bp:], b[:k])', bp = how much is filled. -/
theorem copy_self {P : Program} (w0 wr : World) (h N k : Nat) (x : UInt8) (m : Nat) (t ty e : TypeId) (hu : P.underlying t = some (.slice e)) (hs : (P.info? e).map (·.size) = some 1) (hh : w0.heap.size ≤ h)
    (hb : Buf w0 wr h N (List.replicate m x)) (hk : 0 < k) (hkm : k ≤ m) (hfit : m < N) (c : Nat) :
    ∃ wr', (Builtin.copy_ #[t, t] ty #[tailV h N m, .slice (some ⟨h, 0, none⟩) k c]).run P wr = .ok (.int .i64 ((min k (N - m) : Nat) : Int)) wr' ∧ Buf w0 wr' h N (List.replicate (m + min k (N - m)) x) := by
  obtain ⟨q, hq⟩ : ∃ q, min k (N - m) = q := ⟨_, rfl⟩
  rw [hq]
  have hq0 : 0 < q := by omega
  have hne : ¬ N = m := by omega
  have hl : (List.replicate q (Value.int .u8 (x.toNat : Int))).length = q := List.length_replicate
  have hr := run_copy_cells (P := P) wr t t ty e h m (N - m) (N - m) ⟨h, 0, none⟩ k c (List.replicate q (Value.int .u8 (x.toNat : Int))) hu hs (by rw [hl, ← hq])
    (fun j u hj => by
      have hjq : j < q := by have := (List.getElem?_eq_some_iff.1 hj).1; rwa [hl] at this
      rw [List.getElem?_replicate, if_pos hjq] at hj
      cases hj
      have := hb.holds j x (by rw [List.getElem?_replicate, if_pos (by omega)])
      rcases Nat.eq_zero_or_pos j with rfl | hj0
      · simpa [Addr.add] using this
      · have hj1 : ¬ j = 0 := by omega
        simpa [Addr.add, hj1] using this)
    (fun j hj => by rw [hl] at hj; exact hb.there _ (by omega)) (fun j hj => by rw [hl] at hj; exact hb.free _ (by omega))
    (fun u hu' => by rw [List.eq_of_mem_replicate hu']; rfl)
  rw [hl] at hr
  refine ⟨_, by unfold tailV; rw [if_neg hne]; exact hr, ?_⟩
  have hin := World.cell?_setCells_in h (List.replicate q (Value.int .u8 (x.toNat : Int))) m wr (fun j hj => by rw [hl] at hj; exact hb.there _ (by omega))
  have hout := World.cell?_setCells_out h (List.replicate q (Value.int .u8 (x.toNat : Int))) m wr
  refine ⟨?_, ?_, ?_, ?_, by rw [List.length_replicate]; omega⟩
  · exact Lib.below_setCells h (Nat.le_refl _) _ _ hb.below
  · intro j hj
    by_cases h1 : m ≤ j ∧ j < m + q
    · obtain ⟨d, rfl⟩ : ∃ d, j = m + d := ⟨j - m, by omega⟩
      rw [hin d (by rw [hl]; omega)]
      rfl
    · rw [hout ⟨h, j, none⟩ (fun _ _ => by rw [hl]; show j < _ ∨ _ ≤ j; omega)]
      exact hb.there j hj
  · intro j hj
    rw [World.frozen?_setCells]
    exact hb.free j hj
  · intro j y hy
    have hj : j < m + q := by have := (List.getElem?_eq_some_iff.1 hy).1; rwa [List.length_replicate] at this
    rw [List.getElem?_replicate, if_pos hj] at hy
    cases hy
    by_cases h1 : j < m
    · rw [hout ⟨h, j, none⟩ (fun _ _ => Or.inl h1)]
      exact hb.holds j x (by rw [List.getElem?_replicate, if_pos h1])
    · obtain ⟨d, rfl⟩ : ∃ d, j = m + d := ⟨j - m, by omega⟩
      rw [hin d (by rw [hl]; omega)]
      simp

theorem buf_drew {w0 wr : World} {h N : Nat} {acc : List UInt8} (hb : Buf w0 wr h N acc) : Buf w0 wr.drew h N acc := ⟨hb.below.drew, hb.there, hb.free, hb.holds, hb.fits⟩
set_option maxRecDepth 100000 in
/-- The walk over bytes.Repeat: one byte, at most 4096 times. -/
theorem repW (b o c n : Nat) (x : UInt8) (w : World) (hn0 : 0 < n) (hn : n ≤ 4096) (hcell : w.cell? ⟨b, o, none⟩ = some (.int .u8 (x.toNat : Int))) :
    Calls Try.prog 95 #[.slice (some ⟨b, o, none⟩) 1 c, .int .i64 n] w fun e w' => e = .returned (.slice (some ⟨w.heap.size, 0, none⟩) n n) ∧ Buf w w' w.heap.size n (List.replicate n x) := by
  have u26 : Try.prog.underlying 24 = some (.slice 5) := Try.underlying24
  have z5 : ∀ w, (Go.sizeOf 5).run Try.prog w = .ok 1 w := fun w => rfl
  have hs5 : (Try.prog.info? 5).map (·.size) = some 1 := by kernel_rfl
  have hMul := mulW 1 n (by omega) (by omega) w
  rw [Nat.one_mul, Nat.div_eq_of_lt (by omega : n < 18446744073709551616), Nat.mod_eq_of_lt (by omega : n < 18446744073709551616)] at hMul
  obtain ⟨cs, hrunM, hle, _⟩ := Lib.run_makeNoZero (P := Try.prog) w #[3] 24 5 u26 n (by omega)
  have hcall : (callFunc 97 #[.int .i64 (n : Int)]).run Try.prog w = .ok (.value (.slice (some ⟨w.heap.size, 0, none⟩) n cs.size)) ((w.alloc (.cells cs 5)).drewN 2) := by
    rw [run_callFunc_extern Try.func97 (by kernel_rfl) (by kernel_rfl) (by kernel_rfl) (e := Extern.BytealgMakeNoZero.makeNoZero #[3] #[24]) (by kernel_rfl), hrunM]
    rfl
  clear hrunM
  have i0 : (0 : Int) ≤ (n : Int) := by omega
  have i1 : (n : Int) ≤ (cs.size : Int) := by omega
  have B0 := Lib.Buf.start w cs 5 n 2 hle
  have HB : Lib.HoldsBytes w (.slice (some ⟨b, o, none⟩) 1 c) [x] := ⟨some ⟨b, o, none⟩, c, rfl, (fun h => by cases h), (fun a ha i y hy => by
    cases ha
    cases i with
    | zero => simp at hy; subst hy; simpa [Addr.add] using hcell
    | succ i => simp at hy)⟩
  obtain ⟨w1, hr1, B1⟩ := Lib.copy_part (P := Try.prog) w _ w.heap.size n [] [x] _ 24 3 5 u26 hs5 (Nat.le_refl _) B0 HB (by simp; omega)
  rw [List.length_nil, Lib.tailV_zero] at hr1
  rw [List.nil_append] at B1
  go_enter Try.func95, Try.ntmps95
  go_wp2_with first
    | (go_at_call 96; refine hMul.mono ?_; rintro e w' ⟨rfl, hw⟩; rw [hw])
    | (at_builtin; refine Lib.wpList_copy_run _ rfl _ _ 24 24 rfl _ _ rfl rfl hr1 ?_)
  have HB1 : Aside (Lib.Buf w w1 w.heap.size n (List.replicate 1 x)) := B1
  clear B1 B0 hr1 hcall HB hMul
  go_loopg [10] n (fun g s10 wr => ∃ m : Nat, 1 ≤ m ∧ m ≤ n ∧ n - m ≤ g ∧ s10 = .int .i64 (m : Int) ∧ Aside (Lib.Buf w wr w.heap.size n (List.replicate m x)))
  case atStart => exact ⟨1, Nat.le_refl _, by omega, by omega, rfl, HB1⟩
  case round =>
    obtain ⟨m, hm1, hmn, hg, rfl, HB⟩ := hrel
    by_cases hlt : m < n
    · have hltz : (m : Int) < (n : Int) := by omega
      have hmin : ¬ (n : Int) < (m : Int) := by omega
      have hsl1 : ∀ W, (Instr.slice 24 (.slice (some ⟨w.heap.size, 0, none⟩) n n) (some (.int .i64 (m : Int))) none none).run Try.prog W = .ok (Lib.tailV w.heap.size n m) W := fun W => Lib.run_slice_tailV W 24 5 u26 z5 _ n m (by omega)
      obtain ⟨w2, hr2, B2⟩ := copy_self (P := Try.prog) w wr.drew w.heap.size n m x m 24 3 5 u26 hs5 (Nat.le_refl _) (buf_drew HB.out) (by omega) (Nat.le_refl _) hlt n
      have HB2 : Aside (Lib.Buf w w2 w.heap.size n (List.replicate (m + min m (n - m)) x)) := B2
      clear B2
      obtain ⟨q, hq⟩ : ∃ q, min m (n - m) = q := ⟨_, rfl⟩
      rw [hq] at hr2 HB2
      go_wp2_with fail
      rw [show min (m : Int) (n : Int) = (m : Int) from by omega]
      go_region
      all_goals
        go_wp2
        go_roundg (n - (m + q))
        case measure => omega
        case rel => exact ⟨m + q, by omega, by omega, Nat.le_refl _, by first | rfl | go_num | (congr 1; omega), HB2⟩
    · obtain rfl : m = n := by omega
      go_wp2
      go_ret
      exact ⟨rfl, HB.out⟩

theorem flat_rep8 (x : UInt8) (n : Nat) : (List.replicate n (u8 x)).flatMap AV.cells = List.replicate n (u8 x) := by
  induction n with
  | zero => rfl
  | succ n ih => rw [List.replicate_succ, List.flatMap_cons, ih]; rfl
/-- bytes.Repeat of one byte: a new slice that is read. -/
theorem repeatA (x : UInt8) (n : Nat) (hn : n ≤ 4096) (S : ASt) : ACalls Try.prog 95 [.sl .ro 1 (u8s [x]), .int .i64 n] S fun v S' => v = .sl .ro 1 (u8s (List.replicate n x)) ∧ S' = S := by
  by_cases h0 : n = 0
  · subst h0
    refine en_95 (by exact Nat.le_of_ble_eq_true rfl) ?_
    unfold rc_95
    refine r_reg ?_
    apply i_mov
    · exact tS0 rfl
    refine i_nil ?_
    refine r_reg ?_
    apply i_mov
    · exact tI rfl
    apply i_eqT
    · exact rfl
    · exact rfl
    · omega
    refine i_nil ?_
    apply r_condT
    · exact rfl
    refine r_reg ?_
    refine i_mk0B ?_
    apply i_mov
    · exact tS rfl
    refine i_nil ?_
    refine r_ret ?_
    refine q_kr ?_
    apply q_ret1
    · exact tS rfl
    exact ⟨rfl, rfl⟩
  refine ⟨enA_95, fun E w cargs hR hA => ?_⟩
  obtain ⟨hsz, hall⟩ := hA
  have h1 := hall 0 (by simp)
  have h2 := hall 1 (by simp)
  obtain ⟨c0, c1, rfl⟩ : ∃ c0 c1, cargs = #[c0, c1] := ⟨cargs.getD 0 undef, cargs.getD 1 undef, by
    apply Array.ext
    · simpa using hsz
    · intro i hi1 hi2
      have hi : i = 0 ∨ i = 1 := by simp at hi2; omega
      rcases hi with rfl | rfl <;> simp [Array.getD, hi1]⟩
  simp at h1 h2
  cases h2
  cases h1 with
  | sl_mem _ _ _ b off c vs hacc hc hs1 hone hv hr hroom =>
    have hcell : w.cell? ⟨b, off, none⟩ = some (.int .u8 (x.toNat : Int)) := by
      have e1 := hv 0 (u8 x) rfl
      have e2 := hr 0 (u8 x) rfl
      cases hvs : vs 0 <;> rw [hvs] at e2 <;> cases e2
      rw [hvs] at e1
      simpa using e1
    refine (repW b off c n x w (by omega) hn hcell).mono ?_
    rintro e w' ⟨rfl, hb⟩
    have hlt : w.heap.size < w'.heap.size := World.block_lt_of_cell? w' ⟨w.heap.size, 0, none⟩ (hb.holds 0 x (by rw [List.getElem?_replicate, if_pos (by omega)]))
    obtain ⟨ev, hR'⟩ := step_ro2 hR hb.below hlt
    refine ⟨_, _, _, _, rfl, ev, hR', ?_, rfl, rfl⟩
    have hfl : flat (u8s (List.replicate n x)) = u8s (List.replicate n x) := by
      unfold flat
      simp only [u8s, List.map_replicate]
      exact flat_rep8 x n
    have hat : ∀ j u, (flat (u8s (List.replicate n x)))[j]? = some u → j < n ∧ u = u8 x := by
      intro j u h
      rw [hfl] at h
      simp only [u8s, List.map_replicate, List.getElem?_replicate] at h
      split at h
      · cases h; exact ⟨by assumption, rfl⟩
      · cases h
    have := VRel.sl_mem (E := E.addRo w.heap.size) (S := S) (w := w') .ro 1 (u8s (List.replicate n x)) w.heap.size 0 n (fun _ => .int .u8 (x.toNat : Int)) (.inr rfl) (by simp) (by
      intro y hy; simp only [u8s, List.map_replicate] at hy; rw [List.eq_of_mem_replicate hy]; rfl) (by
      intro u hu
      obtain ⟨j, hj⟩ := List.mem_iff_getElem?.1 hu
      rw [(hat j u hj).2]; rfl) (by
      intro j u hj
      rw [Nat.zero_add]
      exact hb.holds j x (by rw [List.getElem?_replicate, if_pos (hat j u hj).1])) (by
      intro j u hj
      rw [(hat j u hj).2]
      exact .int _ _) (fun t ht => by cases ht)
    simpa using this
  | sl_dead _ t _ _ a c ho ht hd => cases ho
end Go.Proofs.Ythpomdoaiibnfaa.Abs
