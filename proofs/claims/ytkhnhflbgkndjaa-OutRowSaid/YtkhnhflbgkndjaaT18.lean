import Derived.Test.YtkhnhflbgkndjaaT17
namespace Go.Proofs.Ytkhnhflbgkndjaa
open Go.AI

def encI : Enc Int := ⟨fun n => [.int .i64 n], 1, fun _ => rfl, by decide, fun _ => rfl⟩
@[simp] theorem encI_sz : encI.sz = 1 := rfl
@[simp] theorem encI_enc (n : Int) : encI.enc n = [.int .i64 n] := rfl

/-- the first loop: every register has its own number -/
def RegI (h : Heap) (a al : Option Addr) (cap capl nm nl : Nat) (s : Int) (n : Nat) (e : Env) (h1 : Heap) : Prop :=
  ∃ i w, n = 101 - i ∧ i ≤ 101 ∧ Env.get e 8 = .int .i64 (i : Nat) ∧ Env.get e 0 = .slice a nm cap ∧ Env.get e 1 = .int .i64 s ∧ Env.get e 5 = .slice al nl capl ∧ Env.get e 7 = w ∧
    AccOf encI h.next h1 w ((List.range i).map fun (k : Nat) => (k : Int)) ∧ Grows Nob h h1

theorem reg_loop {h h1 : Heap} {s : Int} {a al : Option Addr} {cap capl nm nl : Nat} {n : Nat} {e : Env} (H : RegI h a al cap capl nm nl s n e h1) {Q : AExit → Env → Heap → Prop}
    (hQ : ∀ e h2 w, Env.get e 0 = .slice a nm cap → Env.get e 1 = .int .i64 s → Env.get e 5 = .slice al nl capl → Env.get e 7 = w → AccOf encI h.next h2 w regs → Grows Nob h h2 → Q (.exit 0) e h2) :
    Runs FF (.loop round4_3) e h1 Q := by
  refine Runs.loop (RegI h a al cap capl nm nl s) ?_ H
  rintro n e h2 ⟨i, w, rfl, hi, e8, e0, e1, e5, e7, hA, g⟩
  unfold round4_3
  by_cases hlt : i ≤ 100
  · have hlt' : (i : Int) ≤ 100 := by omega
    have hw := wrap_i64 (i + 1) (by omega) (by omega)
    have g8 := grow_newBlk g.ok (encI.enc (i : Int)) 0
    have hw8 : SliceOf encI (newBlk h2 (encI.enc (i : Int)) 0) (.slice (some ⟨h2.next, 0, none⟩) 1 1) [(i : Int)] := ⟨_, _, rfl, .inr ⟨h2.next, 0, _, _, _, _, rfl, get_newBlk _ _ _, by simp, by simp⟩⟩
    have hA8 := hA.grow g.ok g8 (fun _ _ h => h)
    have hnx : h.next ≤ (newBlk h2 (encI.enc (i : Int)) 0).next := by have := g.next; simp; omega
    obtain ⟨w', h9, ha, hA9, g9, hd9⟩ := acc_append (bytes := 8) g8.ok (z := [.int .i64 0]) rfl hA8 hw8 (by simp; omega) (by decide) hnx
    rw [encI_enc] at ha
    have g10 : Grows Nob h h9 := (g.trans g8).trans' g9 (fun _ _ h => h) (fun x hx h => absurd (hA8.of h) (by omega))
    simp [e8, e0, e1, e5, e7, hlt', ha, hw]
    refine ⟨101 - (i + 1), by omega, i + 1, w', rfl, by omega, by simp, by simp [e0], by simp [e1], by simp [e5], by simp, ?_, g10⟩
    rw [List.range_succ, List.map_append]; exact hA9
  · have : i = 101 := by omega
    subst this
    simp [e8]
    exact hQ _ _ w (by simp [e0]) (by simp [e1]) (by simp [e5]) (by simp [e7]) hA g

/-- a list of registers of the walk's own -/
def Vs (h : Heap) (b : Nat) (vs : List Int) : Prop := vs.length = 101 ∧ ∃ st, h.tr.get b = some (.blk (encI.flat vs) false 1 st)

theorem Vs.grow {S : Nat → Prop} {h h' : Heap} {b : Nat} {vs : List Int} (v : Vs h b vs) (ok : HOk h) (g : Grows S h h') (hb : ¬ S b) : Vs h' b vs := by
  obtain ⟨hl, st, hg⟩ := v
  exact ⟨hl, st, g.get ok hg hb⟩

theorem Vs.read {h : Heap} {b : Nat} {vs : List Int} (v : Vs h b vs) {k : Nat} (hk : k ≤ 100) : readAt h b k 1 = some [.int .i64 (vs.getD k 0)] := by
  obtain ⟨hl, st, hg⟩ := v
  have hk' : k < vs.length := by omega
  rw [readAt_eq hg (by rw [Enc.length_flat]; simp; omega)]
  have := Enc.part_flat encI vs k 0 1 _ (List.getElem?_eq_getElem hk') (by simp)
  simp at this
  rw [this]
  simp [List.getD_eq_getElem?_getD, hk']

/-- the moves, done one by one -/
def DoI (h : Heap) (a al : Option Addr) (cap capl nm : Nat) (s : Int) (b : Nat) (lp : List (Int × Int)) (n : Nat) (e : Env) (h1 : Heap) : Prop :=
  ∃ i, n = lp.length - i ∧ i ≤ lp.length ∧ Env.get e 9 = .int .i64 (i : Nat) ∧ Env.get e 0 = .slice a nm cap ∧ Env.get e 1 = .int .i64 s ∧ Env.get e 5 = .slice al lp.length capl ∧ Env.get e 7 = .slice (some ⟨b, 0, none⟩) 101 101 ∧
    Vs h1 b (foldV regs (lp.take i)) ∧ Grows (· = b) h h1

theorem do_loop {h h1 : Heap} {s : Int} {a al : Option Addr} {cap capl nm b : Nat} {lp : List (Int × Int)} (ok : HOk h) (hl : SliceOf encP h (.slice al lp.length capl) lp) (hn : lp.length ≤ 1000) (hab : ∀ off, al ≠ some ⟨b, off, none⟩)
    (hin : ∀ p ∈ lp, (0 ≤ p.1 ∧ p.1 ≤ 100) ∧ (0 ≤ p.2 ∧ p.2 ≤ 100)) {n : Nat} {e : Env} (H : DoI h a al cap capl nm s b lp n e h1) {Q : AExit → Env → Heap → Prop}
    (hQ : ∀ e h2, Env.get e 0 = .slice a nm cap → Env.get e 1 = .int .i64 s → Env.get e 7 = .slice (some ⟨b, 0, none⟩) 101 101 → Vs h2 b (foldV regs lp) → Grows (· = b) h h2 → Q (.exit 2) e h2) :
    Runs FF (.loop round4_2) e h1 Q := by
  refine Runs.loop (DoI h a al cap capl nm s b lp) ?_ H
  rintro n e h2 ⟨i, rfl, hi, e9, e0, e1, e5, e7, hV, g⟩
  unfold round4_2
  have hl2 : SliceOf encP h2 (.slice al lp.length capl) lp := hl.grow ok g (by rintro x ⟨off, _, _, e⟩ rfl; cases e; exact hab off rfl)
  by_cases hlt : i < lp.length
  · have hx : lp[i]? = some lp[i] := List.getElem?_eq_getElem hlt
    obtain ⟨b', off, cap', hv', _, _, hr⟩ := hl2.read hx
    cases hv'
    obtain ⟨⟨p0, p1⟩, q0, q1⟩ := hin _ (List.getElem_mem hlt)
    obtain ⟨x, hxn⟩ := Int.eq_ofNat_of_zero_le p0
    obtain ⟨y, hyn⟩ := Int.eq_ofNat_of_zero_le q0
    have hx1 : x ≤ 100 := by omega
    have hy1 : y ≤ 100 := by omega
    have hr0 := hr 0 1 (by simp)
    have hr1 := hr 1 1 (by simp)
    simp only [encP_sz, Nat.add_zero, encP_enc, hxn, hyn] at hr0 hr1
    have ht (b o n) : readAt (tick h2) b o n = readAt h2 b o n := rfl
    have hw := wrap_i64 (i + 1) (by omega) (by omega)
    obtain ⟨val, hval⟩ : ∃ val, val = (foldV regs (lp.take i)).getD y 0 := ⟨_, rfl⟩
    have hrv := hV.read hy1
    rw [← hval] at hrv
    obtain ⟨hvl, st, hgv⟩ := id hV
    have c1 : ¬ (x : Int) < 0 := by omega
    have c2 : ¬ (100 : Int) < x := by omega
    have c3 : ¬ (y : Int) < 0 := by omega
    have c4 : ¬ (100 : Int) < y := by omega
    have c5 : x < 101 := by omega
    have c6 : y < 101 := by omega
    have c7 : (x : Int) ≤ 100 := by omega
    have c8 : (y : Int) ≤ 100 := by omega
    have hwr : writeAt (tick h2) b x [.int .i64 val] = some (put (tick h2) b x (encI.flat (foldV regs (lp.take i))) [.int .i64 val] 1) :=
      writeAt_eq hgv (by rw [Enc.length_flat]; simp; omega)
    have gt := grow_tick g.ok
    simp [e9, e0, e1, e5, e7, hlt, ht, hr0, hr1, hrv, c1, c2, c3, c4, c5, c6, c7, c8, hwr, hw, -readAt_def, -writeAt_def]
    refine ⟨lp.length - (i + 1), by omega, i + 1, rfl, by omega, by simp, by simp [e0], by simp [e1], by simp [e5], by simp [e7], ⟨?_, h2.clock + 1, ?_⟩, (g.trans gt.nob).put ⟨st, hgv⟩ (.inr rfl)⟩
    · rw [foldV_length]; rfl
    · rw [get_put_same]
      have hsp := encI.splice_flat (foldV regs (lp.take i)) x val (by omega)
      simp only [encI_sz, encI_enc, Nat.mul_one] at hsp
      rw [hsp, List.take_succ_eq_append_getElem hlt, foldV_append]
      simp only [foldV, hxn, hyn, hval]
      rfl
  · have : i = lp.length := by omega
    subst this
    simp [e9, e5]
    rw [List.take_length] at hV
    exact hQ _ _ (by simp [e0]) (by simp [e1]) (by simp [e7]) hV g

/-- what a register is to have, sought among the moves -/
def WantI (h : Heap) (a : Option Addr) (cap : Nat) (s : Int) (b r : Nat) (ms : List (Int × Int)) (n : Nat) (e : Env) (h1 : Heap) : Prop :=
  ∃ i, n = ms.length - i ∧ i ≤ ms.length ∧ Env.get e 12 = .int .i64 (i : Nat) ∧ Env.get e 11 = .int .i64 (wantGo r r (ms.take i)) ∧ Env.get e 10 = .int .i64 (r : Nat) ∧ Env.get e 0 = .slice a ms.length cap ∧ Env.get e 1 = .int .i64 s ∧
    Env.get e 7 = .slice (some ⟨b, 0, none⟩) 101 101 ∧ Grows Nob h h1

theorem want_loop {h h1 : Heap} {s : Int} {a : Option Addr} {cap b r : Nat} {ms : List (Int × Int)} (ok : HOk h) (hs : SliceOf encP h (.slice a ms.length cap) ms) (hn : ms.length ≤ 100) {n : Nat} {e : Env} (H : WantI h a cap s b r ms n e h1) {Q : AExit → Env → Heap → Prop}
    (hQ : ∀ e h2, Env.get e 11 = .int .i64 (wantM ms r) → Env.get e 10 = .int .i64 (r : Nat) → Env.get e 0 = .slice a ms.length cap → Env.get e 1 = .int .i64 s → Env.get e 7 = .slice (some ⟨b, 0, none⟩) 101 101 → Grows Nob h h2 → Q (.exit 6) e h2) :
    Runs FF (.loop round4_0) e h1 Q := by
  refine Runs.loop (WantI h a cap s b r ms) ?_ H
  rintro n e h2 ⟨i, rfl, hi, e12, e11, e10, e0, e1, e7, g⟩
  unfold round4_0
  by_cases hlt : i < ms.length
  · have hx : ms[i]? = some ms[i] := List.getElem?_eq_getElem hlt
    obtain ⟨b', off, cap', hv', _, _, hr⟩ := (hs.nob ok g).read hx
    cases hv'
    have hr0 := hr 0 1 (by simp)
    have hr1 := hr 1 1 (by simp)
    simp only [encP_sz, Nat.add_zero, encP_enc] at hr0 hr1
    have hw := wrap_i64 (i + 1) (by omega) (by omega)
    have hgo : wantGo r r (ms.take (i + 1)) = if ms[i].1 = r then ms[i].2 else wantGo r r (ms.take i) := by
      rw [List.take_succ_eq_append_getElem hlt, wantGo_append]; rfl
    cases hc : (ms[i].1 == (r : Int)) with
    | true =>
      simp [e12, e11, e10, e0, e1, e7, hlt, hr0, hr1, hw, hc, -readAt_def]
      refine ⟨ms.length - (i + 1), by omega, i + 1, rfl, by omega, by simp, ?_, by simp [e10], by simp [e0], by simp [e1], by simp [e7], g⟩
      rw [hgo, if_pos (by simpa using hc)]
      simp
    | false =>
      simp [e12, e11, e10, e0, e1, e7, hlt, hr0, hr1, hw, hc, -readAt_def]
      refine ⟨ms.length - (i + 1), by omega, i + 1, rfl, by omega, by simp, ?_, by simp [e10], by simp [e0], by simp [e1], by simp [e7], g⟩
      rw [hgo, if_neg (by simpa using hc)]
      simp [e11]
  · have : i = ms.length := by omega
    subst this
    simp [e12, e0]
    rw [List.take_length] at e11
    exact hQ _ _ (by simp [e11, wantM]) (by simp [e10]) (by simp [e0]) (by simp [e1]) (by simp [e7]) g
end Go.Proofs.Ytkhnhflbgkndjaa
