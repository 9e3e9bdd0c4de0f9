import Derived.Test.YtkhnhflbgkndjaaT10
namespace Go.Proofs.Ytkhnhflbgkndjaa
open Go.AI

def encP : Enc (Int × Int) := ⟨fun m => [.int .i64 m.1, .int .i64 m.2], 2, fun _ => rfl, by decide, fun _ => rfl⟩
@[simp] theorem encP_sz : encP.sz = 2 := rfl
@[simp] theorem encP_enc (m : Int × Int) : encP.enc m = [.int .i64 m.1, .int .i64 m.2] := rfl

/-- a move that may not be -/
def badM (s : Int) (m : Int × Int) : Bool := decide (m.1 < 0) || (decide (100 ≤ m.1) || (decide (m.2 < 0) || (decide (100 ≤ m.2) || (m.1 == s || m.2 == s))))
def faultGo (s : Int) : Nat → List (Int × Int) → List (Int × Int) → Option (Int × Int)
  | _, _, [] => none
  | i, pre, m :: r => if badM s m then some (3, i) else if pre.any (fun p => p.1 == m.1) then some (7, i) else faultGo s (i + 1) (pre ++ [m]) r
def faultM (ms : List (Int × Int)) (s : Int) : Int × Int :=
  if 100 < ms.length then (2, 0) else match faultGo s 0 [] ms with
    | some f => f
    | none => if s < 0 ∨ 100 < s then (3, -1) else (0, 0)

theorem bad_cases {s : Int} {m : Int × Int} (h : badM s m = true) : m.1 < 0 ∨ (¬ m.1 < 0 ∧ 0 ≤ m.1 ∧ 100 ≤ m.1) ∨ (¬ m.1 < 0 ∧ 0 ≤ m.1 ∧ ¬ 100 ≤ m.1 ∧ m.1 < 100 ∧ m.2 < 0) ∨
    (¬ m.1 < 0 ∧ 0 ≤ m.1 ∧ ¬ 100 ≤ m.1 ∧ m.1 < 100 ∧ ¬ m.2 < 0 ∧ 0 ≤ m.2 ∧ 100 ≤ m.2) ∨
    (¬ m.1 < 0 ∧ 0 ≤ m.1 ∧ ¬ 100 ≤ m.1 ∧ m.1 < 100 ∧ ¬ m.2 < 0 ∧ 0 ≤ m.2 ∧ ¬ 100 ≤ m.2 ∧ m.2 < 100 ∧ (m.1 == s) = true) ∨
    (¬ m.1 < 0 ∧ 0 ≤ m.1 ∧ ¬ 100 ≤ m.1 ∧ m.1 < 100 ∧ ¬ m.2 < 0 ∧ 0 ≤ m.2 ∧ ¬ 100 ≤ m.2 ∧ m.2 < 100 ∧ (m.1 == s) = false ∧ (m.2 == s) = true) := by
  simp [badM] at h ⊢
  omega

theorem good_case {s : Int} {m : Int × Int} (h : badM s m = false) : ¬ m.1 < 0 ∧ 0 ≤ m.1 ∧ ¬ 100 ≤ m.1 ∧ m.1 < 100 ∧ ¬ m.2 < 0 ∧ 0 ≤ m.2 ∧ ¬ 100 ≤ m.2 ∧ m.2 < 100 ∧ (m.1 == s) = false ∧ (m.2 == s) = false := by
  simp [badM] at h ⊢
  omega

/-- the inner search: is a register among those that were written? -/
def TwiceI (h9 : Heap) (a : Option Addr) (cap : Nat) (s : Int) (ms : List (Int × Int)) (i R T : Nat) (n : Nat) (e : Env) (h1 : Heap) : Prop :=
  ∃ j, n = i - j ∧ j ≤ i ∧ Env.get e 7 = .int .i64 (j : Nat) ∧ Env.get e 5 = .int .i64 (i : Nat) ∧ Env.get e 0 = .slice a ms.length cap ∧ Env.get e 1 = .int .i64 s ∧ Env.get e 4 = .pointer (some ⟨R, 0, none⟩) ∧
    Env.get e 6 = .pointer (some ⟨T, 0, none⟩) ∧ ((ms.take j).any fun p => p.1 == (ms.getD i (0, 0)).1) = false ∧ Grows Nob h9 h1

def FaultI (h : Heap) (a : Option Addr) (cap : Nat) (s : Int) (ms : List (Int × Int)) (n : Nat) (e : Env) (h1 : Heap) : Prop :=
  ∃ i sR, n = ms.length - i ∧ i ≤ ms.length ∧ Env.get e 5 = .int .i64 (i : Nat) ∧ Env.get e 0 = .slice a ms.length cap ∧ Env.get e 1 = .int .i64 s ∧ Env.get e 4 = .pointer (some ⟨h.next, 0, none⟩) ∧
    h1.tr.get h.next = some (.blk [.int .i64 0, .int .i64 0] false 0 sR) ∧ faultGo s 0 [] ms = faultGo s i (ms.take i) (ms.drop i) ∧ Grows Nob h h1

theorem movesFault_does {h : Heap} (ok : HOk h) {v : Value} {ms : List (Int × Int)} {s : Int} (hs : SliceOf encP h v ms) :
    Does FF 6 [v, .int .i64 s] h (fun r h' => r = .agg #[.int .i64 (faultM ms s).1, .int .i64 (faultM ms s).2] ∧ Grows Nob h h') := by
  obtain ⟨a, cap, rfl, hs'⟩ := id hs
  refine Does.of code6 ?_
  unfold body6
  have g1 := grow_newBlk ok [.int .i64 0, .int .i64 0] 0
  have hR1 := get_newBlk h [.int .i64 0, .int .i64 0] 0
  by_cases hlen : 100 < ms.length
  · have hlen' : (100 : Int) < ms.length := by omega
    simp [hlen']
    generalize newBlk h [.int .i64 0, .int .i64 0] 0 = h1 at *
    refine OpsR.call (by simpa using fault13_does h1 g1.ok 2 0) ?_
    rintro _ h2 ⟨rfl, g2⟩
    have hR2 := g2.get g1.ok hR1 (fun h => h)
    simp [hR2, faultM, hlen]
    exact (g1.trans g2).put ⟨_, hR2⟩ (.inl (Nat.le_refl _))
  · have hlen' : (ms.length : Int) ≤ 100 := by omega
    simp [hlen']
    generalize newBlk h [.int .i64 0, .int .i64 0] 0 = h1 at *
    refine Runs.loop (FaultI h a cap s ms) ?_ (n := ms.length) ⟨0, 0, rfl, by omega, by simp, by simp, by simp, by simp, hR1, by simp, g1⟩
    rintro n e h2 ⟨i, sR, rfl, hi, e5, e0, e1, e4, hR2, hgo, g2⟩
    unfold round6_1
    by_cases hlt : i < ms.length
    · have hx : ms[i]? = some ms[i] := List.getElem?_eq_getElem hlt
      obtain ⟨b', off, cap', hv', _, _, hr⟩ := (hs.nob ok g2).read hx
      cases hv'
      have hr0 := hr 0 2 (by simp)
      simp only [encP_sz, Nat.add_zero, encP_enc] at hr0
      rw [List.drop_eq_getElem_cons hlt, faultGo] at hgo
      have hrT : readAt (put (newBlk h2 [.int .i64 0, .int .i64 0] 0) h2.next 0 [.int .i64 0, .int .i64 0] [.int .i64 ms[i].1, .int .i64 ms[i].2] 0) h2.next 0 1 = some [.int .i64 ms[i].1] := by simp
      have hrT1 : readAt (put (newBlk h2 [.int .i64 0, .int .i64 0] 0) h2.next 0 [.int .i64 0, .int .i64 0] [.int .i64 ms[i].1, .int .i64 ms[i].2] 0) h2.next 1 1 = some [.int .i64 ms[i].2] := by simp
      have g3 : Grows Nob h2 (put (newBlk h2 [.int .i64 0, .int .i64 0] 0) h2.next 0 [.int .i64 0, .int .i64 0] [.int .i64 ms[i].1, .int .i64 ms[i].2] 0) := (grow_newBlk g2.ok _ _).put ⟨_, get_newBlk _ _ _⟩ (.inl (Nat.le_refl _))
      cases hb : badM s ms[i] with
      | true =>
        have hf : faultM ms s = (3, (i : Int)) := by
          unfold faultM; rw [if_neg hlen, hgo, hb]; simp
        rcases bad_cases hb with hc | hc | hc | hc | hc | hc <;> simp [e5, e0, e1, e4, hlt, hr0, hrT, hrT1, hc, -readAt_def] <;>
          (refine OpsR.call (V := fun v h' => v = .agg #[.int .i64 3, .int .i64 (i : Nat)] ∧ Grows Nob _ h') (by simpa using fault13_does _ g3.ok 3 i) ?_
           rintro _ h4 ⟨rfl, g4⟩
           have hR4 := g4.get g3.ok (g3.get g2.ok hR2 (fun h => h)) (fun h => h)
           simp [e4, hR4, hf]
           exact ((g2.trans g3).trans g4).put ⟨_, hR4⟩ (.inl (Nat.le_refl _)))
      | false =>
        have hc := good_case hb
        simp [e5, e0, e1, e4, hlt, hr0, hrT, hrT1, hc, -readAt_def]
        have hR3 := g3.get g2.ok hR2 (fun h => h)
        have hT3 : (put (newBlk h2 [.int .i64 0, .int .i64 0] 0) h2.next 0 [.int .i64 0, .int .i64 0] [.int .i64 ms[i].1, .int .i64 ms[i].2] 0).tr.get h2.next = some (.blk [.int .i64 ms[i].1, .int .i64 ms[i].2] false 0 h2.clock) := by simp
        generalize put (newBlk h2 [.int .i64 0, .int .i64 0] 0) h2.next 0 [.int .i64 0, .int .i64 0] [.int .i64 ms[i].1, .int .i64 ms[i].2] 0 = h3 at *
        have hs3 := hs.nob ok (g2.trans g3)
        have hgd : ms.getD i (0, 0) = ms[i] := by simp [hlt]
        refine Runs.loop (TwiceI h3 (some ⟨b', off, none⟩) cap s ms i h.next h2.next) ?_ (n := i) ⟨0, rfl, by omega, by simp, by simp [e5], by simp [e0], by simp [e1], by simp [e4], by simp, by simp, .refl g3.ok⟩
        rintro n e' h4 ⟨j, rfl, hj, f7, f5, f0, f1, f4, f6, hany, g4⟩
        have hR4 := g4.get g3.ok hR3 (fun h => h)
        have hT4 := g4.get g3.ok hT3 (fun h => h)
        rw [hgd] at hany
        unfold round6_0
        by_cases hji : j < i
        · have hjl : j < ms.length := by omega
          have hxj : ms[j]? = some ms[j] := List.getElem?_eq_getElem hjl
          obtain ⟨b2, off2, cap2, hv2, _, _, hr2⟩ := (hs3.nob g3.ok g4).read hxj
          cases hv2
          have hrj := hr2 0 1 (by simp)
          simp only [encP_sz, Nat.add_zero, encP_enc] at hrj
          have hrj' : readAt (tick h4) b' (off + j * 2) 1 = some (List.take 1 (List.drop 0 [Value.int .i64 ms[j].1, .int .i64 ms[j].2])) := hrj
          have hrT4 : readAt (tick h4) h2.next 0 1 = some [.int .i64 ms[i].1] := by simp [hT4]
          have htk : ms.take (j + 1) = ms.take j ++ [ms[j]] := by rw [List.take_succ_eq_append_getElem hjl]
          cases hq : (ms[j].1 == ms[i].1) with
          | true =>
            have hf : faultM ms s = (7, (i : Int)) := by
              have : ((ms.take i).any fun p => p.1 == ms[i].1) = true := by
                rw [List.any_eq_true]
                exact ⟨ms[j], List.mem_take_iff_getElem.mpr ⟨j, by omega, rfl⟩, hq⟩
              unfold faultM; rw [if_neg hlen, hgo, hb, this]; simp
            simp [f7, f5, f0, f1, f4, f6, hji, hjl, hrj', hrT4, hq, -readAt_def]
            refine OpsR.call (V := fun v h' => v = .agg #[.int .i64 7, .int .i64 (i : Nat)] ∧ Grows Nob _ h') (by simpa using fault13_does _ (grow_tick g4.ok).ok 7 i) ?_
            rintro _ h5 ⟨rfl, g5⟩
            have hR5 := g5.get (grow_tick g4.ok).ok hR4 (fun h => h)
            simp [f4, hR5, hf]
            exact ((((g2.trans g3).trans g4).tick).trans g5).put ⟨_, hR5⟩ (.inl (Nat.le_refl _))
          | false =>
            have hw := wrap_i64 (j + 1) (by omega) (by omega)
            simp [f7, f5, f0, f1, f4, f6, hji, hjl, hrj', hrT4, hq, hw, -readAt_def]
            refine ⟨i - (j + 1), by omega, j + 1, rfl, by omega, by simp, by simp [f5], by simp [f0], by simp [f1], by simp [f4], by simp [f6], ?_, g4.tick⟩
            rw [hgd, htk, List.any_append, hany]
            simpa using hq
        · have : j = i := by omega
          subst this
          have hw := wrap_i64 (j + 1) (by omega) (by omega)
          simp [f7, f5, hw]
          refine ⟨ms.length - (j + 1), by omega, j + 1, _, rfl, by omega, by simp, by simp [f0], by simp [f1], by simp [f4], hR4, ?_, (g2.trans g3).trans g4⟩
          rw [hgo, hb, hany, ← List.take_succ_eq_append_getElem hlt]; simp
    · have : i = ms.length := by omega
      subst this
      have hgo' : faultGo s 0 [] ms = none := by rw [hgo]; simp [faultGo]
      by_cases hsp : s < 0 ∨ 100 < s
      · have hf : faultM ms s = (3, -1) := by
          unfold faultM; rw [if_neg hlen, hgo']; simp [hsp]
        have hsp' : s < 0 ∨ (¬ s < 0 ∧ 0 ≤ s ∧ 100 < s) := by omega
        rcases hsp' with hc | hc <;> simp [e5, e0, e1, hc] <;>
          (refine OpsR.call (V := fun v h' => v = .agg #[.int .i64 3, .int .i64 (-1)] ∧ Grows Nob _ h') (by simpa using fault13_does _ g2.ok 3 (-1)) ?_
           rintro _ h5 ⟨rfl, g5⟩
           have hR5 := g5.get g2.ok hR2 (fun h => h)
           simp [e4, hR5, hf]
           exact (g2.trans g5).put ⟨_, hR5⟩ (.inl (Nat.le_refl _)))
      · have hf : faultM ms s = (0, 0) := by
          unfold faultM; rw [if_neg hlen, hgo']; simp [hsp]
        have hc : ¬ s < 0 ∧ 0 ≤ s ∧ ¬ 100 < s ∧ s ≤ 100 := by omega
        simp [e5, e0, e1, e4, hc, hR2, hf]
        exact g2.put ⟨_, hR2⟩ (.inl (Nat.le_refl _))
end Go.Proofs.Ytkhnhflbgkndjaa
