/- Contract: the rounds of walk of package value. -/
import Derived.Test.YtigniafapkbbbaaGreatDoorKJ
namespace Go.Proofs.YtigniafapkbbbaaGreatDoor
open Go.AI

/-- known keys, as a map has them -/
def mapOf (keys : List (Key × Int)) : List (Value × Value) := keys.map fun x => (.agg ⟨keyV x.1⟩, .int .i64 x.2)

theorem eq_key (a b : Key) : eqVal [9, 1, 0, 1, 0, 1] (.agg ⟨keyV a⟩) (.agg ⟨keyV b⟩) = some (a == b) := by
  obtain ⟨a1, a2, a3, a4, a5⟩ := a
  obtain ⟨b1, b2, b3, b4, b5⟩ := b
  simp only [eqVal, keyV, eqCells, eqCell, if_true, Bool.and_true]
  rfl

theorem look_keys (c : Key) : ∀ keys : List (Key × Int), lookIn [9, 1, 0, 1, 0, 1] (.agg ⟨keyV c⟩) (mapOf keys) = some ((keys.lookup c).map fun r => .int .i64 r)
  | [] => rfl
  | (c', r) :: keys => by
    show (match eqVal [9, 1, 0, 1, 0, 1] (.agg ⟨keyV c⟩) (.agg ⟨keyV c'⟩) with
      | some true => some (some (Value.int .i64 r))
      | some false => lookIn [9, 1, 0, 1, 0, 1] (.agg ⟨keyV c⟩) (mapOf keys)
      | none => none) = _
    rw [eq_key, List.lookup_cons]
    cases h : c == c' with
    | true => rfl
    | false => exact look_keys c keys

theorem plain_key (c : Key) (d : Int) : (plainK (.agg ⟨keyV c⟩) && plain (.int .i64 d)) = true := rfl

theorem upd_keys (c : Key) (d : Int) : ∀ keys : List (Key × Int), keys.lookup c = none → updIn [9, 1, 0, 1, 0, 1] (.agg ⟨keyV c⟩) (.int .i64 d) (mapOf keys) = some (mapOf (keys ++ [(c, d)]))
  | [], _ => by
    show (if (plainK (.agg ⟨keyV c⟩) && plain (.int .i64 d)) = true then some [(Value.agg ⟨keyV c⟩, Value.int .i64 d)] else none) = _
    rw [if_pos (plain_key c d)]; rfl
  | (c', r) :: keys, h => by
    show (match eqVal [9, 1, 0, 1, 0, 1] (.agg ⟨keyV c⟩) (.agg ⟨keyV c'⟩) with
      | some true => if (plainK (.agg ⟨keyV c⟩) && plain (.int .i64 d)) = true then some ((Value.agg ⟨keyV c⟩, Value.int .i64 d) :: mapOf keys) else none
      | some false => match updIn [9, 1, 0, 1, 0, 1] (.agg ⟨keyV c⟩) (.int .i64 d) (mapOf keys) with | some r' => some ((Value.agg ⟨keyV c'⟩, Value.int .i64 r) :: r') | none => none
      | none => none) = _
    rw [List.lookup_cons] at h
    rw [eq_key]
    cases he : c == c' with
    | true => rw [he] at h; cases h
    | false =>
      rw [he] at h
      show (match updIn [9, 1, 0, 1, 0, 1] (.agg ⟨keyV c⟩) (.int .i64 d) (mapOf keys) with | some r' => some ((Value.agg ⟨keyV c'⟩, Value.int .i64 r) :: r') | none => none) = _
      rw [upd_keys c d keys h]
      rfl

theorem grow_newO {h : Heap} (ok : HOk h) (o : AObj) (ho : ∀ cs ro op s, o ≠ .blk cs ro op s) : Grows Nob h (h.new o) := by
  refine ⟨Nat.le_succ _, Nat.le_refl _, fun b hb _ => get_new_ne _ hb, ⟨fun b ob hb => ?_, fun b cs ro op s hb => ?_⟩⟩
  · simp only [Heap.new, Tr.get_set] at hb ⊢
    by_cases e : b = h.next
    · omega
    · rw [if_neg e] at hb; exact Nat.lt_succ_of_lt (ok.wf b ob hb)
  · simp only [Heap.new, Tr.get_set] at hb ⊢
    by_cases e : b = h.next
    · rw [if_pos e] at hb; injection hb with hb; exact absurd hb (ho _ _ _ _)
    · rw [if_neg e] at hb; exact ok.st b cs ro op s hb

/-- the memory behind a writing into a map -/
def putM (h : Heap) (r : Nat) (es : List (Value × Value)) : Heap := { h with clock := h.clock + 1, tr := h.tr.set r (.map es) }
@[simp] theorem next_putM (h : Heap) (r : Nat) (es : List (Value × Value)) : (putM h r es).next = h.next := rfl
@[simp] theorem clock_putM (h : Heap) (r : Nat) (es : List (Value × Value)) : (putM h r es).clock = h.clock + 1 := rfl
theorem get_putM (h : Heap) (r b : Nat) (es : List (Value × Value)) : (putM h r es).tr.get b = if b = r then some (.map es) else h.tr.get b := by simp only [putM, Tr.get_set]
theorem grow_putM {h : Heap} (ok : HOk h) {r : Nat} (es : List (Value × Value)) {o : AObj} (hr : h.tr.get r = some o) : Grows (· = r) h (putM h r es) := by
  refine ⟨Nat.le_refl _, Nat.le_succ _, fun x hx hn => by rw [get_putM, if_neg hn], ⟨fun x ob hx => ?_, fun x cs' ro o' s' hx => ?_⟩⟩
  · rw [get_putM] at hx
    by_cases e : x = r
    · subst e; exact ok.wf _ _ hr
    · rw [if_neg e] at hx; exact ok.wf x ob hx
  · rw [get_putM] at hx
    by_cases e : x = r
    · rw [if_pos e] at hx; cases hx
    · rw [if_neg e] at hx; exact Nat.le_succ_of_le (ok.st x cs' ro o' s' hx)

theorem nextR_of {F : Nat → Option AFunc} {d : Option Nat} {l : List AOper} {e : Env} {R : Env → Heap → Prop} {o : Option (Value × Heap)} {v : Value} {h : Heap} (ho : o = some (v, h)) (H : OpsR F l (putE e d v) h R) : NextR F d l e R o := by
  rw [ho]; exact H

/-- how far a pass has come -/
structure Pass (h0 : Heap) (n0 : Nat) (h : Heap) (K f : Nat) (kids now : SV) (mp : Nat) (w : Value) (s : VS) : Prop where
  g : Grows (fun b => KnB K now b ∨ n0 ≤ b) h0 h
  kn : Kn h K f kids now s.now s.more
  map : h.tr.get mp = some (.map (mapOf s.keys))
  kept : AccOf encOwn n0 h w s.kept
  new : n0 ≤ mp
  le : n0 ≤ h.next

theorem Pass.grow {h0 h h' : Heap} {n0 K f : Nat} {kids now : SV} {mp : Nat} {w : Value} {s : VS} (p : Pass h0 n0 h K f kids now mp w s) (g : Grows Nob h h') : Pass h0 n0 h' K f kids now mp w s :=
  ⟨p.g.trans g.nob, p.kn.grow p.g.ok g (fun _ _ h => h), g.get p.g.ok p.map (fun h => h), p.kept.grow p.g.ok g (fun _ _ h => h), p.new, Nat.le_trans p.le g.next⟩

theorem round_walk {h0 h2 : Heap} {n0 K f B mp j len N cur : Nat} {kids now : SV} {e : Env} {la : Option Addr} {lc b' off : Nat} {x : Own} {w : Value} {s : VS} {Q : AExit → Env → Heap → Prop} (hjl : j < len) (hlen : len < 100000) (hv1 : la = some ⟨b', off, none⟩) (hr0 : readAt h2 b' (off + j * 8) 8 = some (encOwn.enc x)) (hold : Old b' h2)
    (hx : Valid N x) (hop : 2 ≤ x.op ∧ x.op ≤ 15) (P : Pass h0 n0 h2 K f kids now mp w s) (hI : Inv N cur s) (hcur : (cur : Int) ≤ x.dst) (hN : N < 1000000) (hkept : s.kept.length < 1000000) (hKo : K < n0) (hno : ∀ b, BlkOf now.v b → b < n0)
    (f0 : Env.get e 0 = .pointer (some ⟨K, 0, none⟩)) (f1 : Env.get e 1 = .int .i64 0) (f6 : Env.get e 6 = .map (some mp)) (f9 : Env.get e 9 = .pointer (some ⟨B, 0, none⟩)) (f10 : Env.get e 10 = w) (f47 : Env.get e 47 = .slice la len lc) (f48 : Env.get e 48 = .int .i64 len) (f49 : Env.get e 49 = .int .i64 j)
    (C : ∀ e' h' w', Pass h0 n0 h' K f kids now mp w' (stepV s x) → Env.get e' 0 = .pointer (some ⟨K, 0, none⟩) → Env.get e' 1 = .int .i64 0 → Env.get e' 6 = .map (some mp) → Env.get e' 9 = .pointer (some ⟨B, 0, none⟩) → Env.get e' 10 = w' → Env.get e' 47 = .slice la len lc → Env.get e' 48 = .int .i64 len → Env.get e' 49 = .int .i64 ((j + 1 : Nat) : Int) → Q .normal e' h') :
    Runs FF r_value_known_walk_2 e h2 Q := by
  have ok2 := P.g.ok
  obtain ⟨j', hj'⟩ : ∃ j', j' = j + 1 := ⟨_, rfl⟩
  have wj : IntKind.i64.wrap ((j : Int) + 1) = (j' : Int) := by rw [wrap_i64 _ (by omega) (by omega)]; omega
  rw [← hj'] at C
  simp [-readAt_def] at hr0
  unfold r_value_known_walk_2
  simp [f0, f47, f48, f49, hjl, hv1, hr0, -readAt_def, readAt_tick, readAt_put_same]
  have hcA : Ent s.now x.ar x.an := by
    intro hr
    obtain ⟨k, e, hk⟩ := hx.a hr
    obtain ⟨i, h1, h3, _⟩ := hI.ent k hk
    exact ⟨k, i, e, h1, h3⟩
  have hcB : Ent s.now x.br x.bn := by
    intro hr
    obtain ⟨k, e, hk⟩ := hx.b hr
    obtain ⟨i, h1, h3, _⟩ := hI.ent k hk
    exact ⟨k, i, e, h1, h3⟩
  have hlN : s.now.length < 1000000 := by rw [hI.len]; exact hN
  refine DrawR.cut (fun h3 => Grows Nob h2 h3 ∧ h2.clock < h3.clock ∧ ∃ t, t ≤ h2.clock ∧ h3.tr.get h2.next = some (.blk (encOwn.enc x) false 0 t)) ?_ ?_
  · exact ⟨(((Grows.refl ok2).new _ _).put ⟨0, by simp⟩ (.inl (Nat.le_refl _))).tick, by simp; omega, h2.clock, Nat.le_refl _, by simp⟩
  rintro h3 ⟨g3, hc3, t3, ht3, hY3⟩
  have P3 := P.grow g3
  refine DrawR.call (by simpa using kval_does g3.ok P3.kn hcA hlN) ?_
  rintro _ h4 ⟨rfl, g4⟩
  have P4 := P3.grow g4
  have hY4 := g4.get g3.ok hY3 (fun h => h)
  simp at hY4
  have hst4 : t3 ≤ h2.clock + 1 := by omega
  simp [hY4, f0, hst4]
  refine DrawR.call (by simpa using kval_does g4.ok P4.kn hcB hlN) ?_
  rintro _ h5 ⟨rfl, g5⟩
  have P5 := P4.grow g5
  have hY5 := g5.get g4.ok hY4 (fun h => h)
  simp [hY5, f0]
  have hs1 : (x.op == 1) = false := by
    have : ¬ x.op = 1 := by omega
    simpa using this
  have e8 : (encOwn.enc (resM s.now x)) = [.int .i64 x.op, .int .i64 x.dst, .bool (curM s.now x.ar x.an).1, .int .i64 (curM s.now x.ar x.an).2, .bool (curM s.now x.br x.bn).1, .int .i64 (curM s.now x.br x.bn).2, .int .i64 0, .slice none 0 0] := rfl
  refine Runs.cut (fun h6 => Grows Nob h2 h6 ∧ Pass h0 n0 h6 K f kids now mp w s ∧ ∃ t, h6.tr.get h2.next = some (.blk (encOwn.enc (resM s.now x)) false 0 t)) ?_ ?_
  · have g25 : Grows Nob h2 h5 := (g3.trans g4).trans g5
    have gp := (g25.put ⟨_, hY5⟩ (.inl (Nat.le_refl _)) : Grows Nob h2 (put h5 h2.next 2 _ [.bool (curM s.now x.ar x.an).1, .int .i64 (curM s.now x.ar x.an).2] 0))
    have gpp : Grows Nob h2 _ := gp.put (off := 4) (vs := [.bool (curM s.now x.br x.bn).1, .int .i64 (curM s.now x.br x.bn).2]) ⟨_, get_put_same _ _ _ _ _ _⟩ (.inl (Nat.le_refl _))
    refine ⟨by simpa using gpp, by simpa using P.grow gpp, h5.clock + 1, by rw [e8]; simp⟩
  rintro h6 ⟨g6, P6, t6, hY6⟩
  rw [e8] at hY6
  rw [runs_loop]
  unfold r_value_known_walk_1
  simp [hY6, hs1]
  obtain ⟨c, hc⟩ : ∃ c, keyAt s.now x = c := ⟨_, rfl⟩
  have hko := keyOf_does (dst := x.dst) P6.g.ok (.pointer (some ⟨K, 0, none⟩)) hop (curM s.now x.ar x.an) (curM s.now x.br x.bn)
  rw [show keyM x.op (curM s.now x.ar x.an) (curM s.now x.br x.bn) = c from hc] at hko
  refine OpsR.call (by simpa [f0, insCells] using hko) ?_
  rintro _ h7 ⟨rfl, g7⟩
  have P7 := P6.grow g7
  have hY7 := g7.get P6.g.ok hY6 (fun h => h)
  have hst : stepV s x = match s.keys.lookup c with
    | some r => { s with now := s.now.set x.dst.toNat (true, r), more := true }
    | none => { s with keys := s.keys ++ [(c, x.dst)], kept := s.kept ++ [resM s.now x] } := by
    unfold stepV; rw [hc] <;> rfl
  have hlook := look_keys c s.keys
  have hupd := upd_keys c x.dst s.keys
  obtain ⟨c1, c2, c3, c4, c5⟩ := c
  simp only [keyV] at hlook hupd
  have hkok : keyOk [9, 1, 0, 1, 0, 1] (.agg ⟨[.int .i64 c1, .bool c2, .int .i64 c3, .bool c4, .int .i64 c5]⟩) = true := rfl
  have hM7 := P7.map
  have oM7 := P7.g.ok.old hM7
  have oY7 := P7.g.ok.old hY7
  obtain ⟨d, hd, hdN⟩ := hx.dst
  cases hl : s.keys.lookup (c1, c2, c3, c4, c5) with
  | some r =>
    rw [hl] at hst hlook
    simp only at hst
    simp only [Option.map_some] at hlook
    simp [keyV, f0, f6, hM7, oM7, hlook, hkok, hY7, oY7]
    refine OpsR.cut (fun h8 => Grows Nob h7 h8) ?_ ?_
    · exact ((Grows.refl P7.g.ok).new _ _).put ⟨0, by simp⟩ (.inl (Nat.le_refl _))
    rintro h8 g8
    have P8 := P7.grow g8
    rw [hd]
    refine OpsR.call (by simpa using same_does P8.g.ok P8.kn (d := d) (by rw [hI.len]; exact hdN) true r) ?_
    rintro _ h9 ⟨rfl, g9, k9⟩
    have nm : ¬ KnB K now mp := by
      rintro (e | e)
      · have := P.new; omega
      · have := hno _ e; have := P.new; omega
    have P9 : Pass h0 n0 h9 K f kids now mp w (stepV s x) := by
      rw [hst, hd]
      refine ⟨P8.g.trans' g9 (fun _ _ h => h) (fun _ _ h => .inl h), by simpa using k9, g9.get P8.g.ok P8.map nm, P8.kept.grow P8.g.ok g9 (fun b hb h => ?_), P8.new, Nat.le_trans P8.le g9.next⟩
      have := P8.kept.of hb
      rcases h with e | e
      · omega
      · have := hno _ e; omega
    simp [f49, wj]
    refine C _ _ w P9 ?_ ?_ ?_ ?_ ?_ ?_ ?_ ?_ <;> simp [*]
  | none =>
    rw [hl] at hst hlook
    simp only at hst
    simp only [Option.map_none] at hlook
    have hupd := hupd hl
    have lm := (P.g.ok.old P.map).lt
    have nYM : ¬ h2.next = mp := by omega
    simp [keyV, f0, f6, f10, hM7, oM7, hlook, hkok, hupd, hY7, oY7, nYM, Tr.get_set]
    have hnw : ∀ b, BlkOf w b → b < h2.next ∧ b ≠ mp := by
      intro b hb
      obtain ⟨off, n, cap, e⟩ := hb
      rcases P.kept with ⟨_, e2⟩ | ⟨b2, s2, e2, hb2, _⟩
      · rw [e2] at e; cases e
      · rw [e2] at e; cases e
        exact ⟨P.g.ok.wf _ _ hb2, fun e => by rw [e, P.map] at hb2; cases hb2⟩
    obtain ⟨h8, hh8⟩ : ∃ h8, h8 = put (newBlk h7 [.int .i64 0, .bool false, .int .i64 0, .bool false, .int .i64 0] 0) h7.next 0 [.int .i64 0, .bool false, .int .i64 0, .bool false, .int .i64 0] [.int .i64 c1, .bool c2, .int .i64 c3, .bool c4, .int .i64 c5] 0 := ⟨_, rfl⟩
    have g8 : Grows Nob h7 h8 := by
      rw [hh8]
      exact ((Grows.refl P7.g.ok).new _ _).put ⟨0, by simp⟩ (.inl (Nat.le_refl _))
    have P8 := P7.grow g8
    have gM := grow_putM P8.g.ok (mapOf (s.keys ++ [((c1, c2, c3, c4, c5), x.dst)])) P8.map
    have g9 := grow_newBlk gM.ok (encOwn.enc (resM s.now x)) 0
    have nm : ¬ KnB K now mp := by
      rintro (e | e)
      · have := P.new; omega
      · have := hno _ e; have := P.new; omega
    have g89 : Grows (· = mp) h8 _ := gM.trans g9.nob
    have hM9 : (newBlk (putM h8 mp (mapOf (s.keys ++ [((c1, c2, c3, c4, c5), x.dst)]))) (encOwn.enc (resM s.now x)) 0).tr.get mp = some (.map (mapOf (s.keys ++ [((c1, c2, c3, c4, c5), x.dst)]))) := by
      rw [get_newBlk_old (show Old mp (putM h8 mp _) from P8.g.ok.old P8.map), get_putM, if_pos rfl]
    have hA9 := P8.kept.grow P8.g.ok g89 (fun b hb e => (hnw b hb).2 e)
    have hw9 : SliceOf encOwn (newBlk (putM h8 mp (mapOf (s.keys ++ [((c1, c2, c3, c4, c5), x.dst)]))) (encOwn.enc (resM s.now x)) 0) (.slice (some ⟨h8.next, 0, none⟩) 1 1) [resM s.now x] := ⟨_, _, rfl, .inr ⟨h8.next, 0, _, _, _, _, rfl, get_newBlk _ _ _, by simp, by simp⟩⟩
    have k9 := P8.kn.grow P8.g.ok g89 (fun b hb e => nm (e ▸ hb))
    obtain ⟨w', h10, ha, hA10, g10, hd10⟩ := acc_one (bytes := 80) (z := [.int .i64 0, .int .i64 0, .bool false, .int .i64 0, .bool false, .int .i64 0, .int .i64 0, .slice none 0 0]) g9.ok rfl hA9 hw9 hkept (by decide) (by have := P8.le; show n0 ≤ h8.next + 1; omega)
    rw [hh8, e8] at ha
    refine nextR_of ha ?_
    have P10 : Pass h0 n0 h10 K f kids now mp w' (stepV s x) := by
      rw [hst]
      have nw2 : ∀ b, BlkOf w b → n0 ≤ b := fun b hb => P.kept.of hb
      refine ⟨(P8.g.trans' g89 (fun _ _ h => h) (fun b hb e => .inr (by have := P.new; omega))).trans' g10 (fun _ _ h => h) (fun b hb h => .inr (nw2 b h)), ?_, ?_, hA10, P8.new, Nat.le_trans P8.le (Nat.le_trans g89.next g10.next)⟩
      · exact k9.grow g9.ok g10 (fun b hb h => by
          have := nw2 b h
          rcases hb with e | e
          · omega
          · have := hno _ e; omega)
      · exact g10.get g9.ok hM9 (fun h => (hnw _ h).2 rfl)
    simp [f49, wj]
    refine C _ _ w' P10 ?_ ?_ ?_ ?_ ?_ ?_ ?_ ?_ <;> simp [*]
end Go.Proofs.YtigniafapkbbbaaGreatDoor

/- Contract: walk of package value, of one block. -/
namespace Go.Proofs.YtigniafapkbbbaaGreatDoor
open Go.AI

theorem walk_does {h : Heap} (ok : HOk h) {K f N n0 : Nat} {kids now blocks list : SV} {name : ByteArray} {p R0 n : Int} {xs : List Own} (k : Kn h K f kids now (idT N) false) (hf : ∃ o s, h.tr.get f = some (.blk (fnCells name p R0 blocks) false o s)) (hB : OneW n0 h blocks list false n)
    (hsl : SliceOf encOwn h list.v xs) (hlen : xs.length < 100000) (hN : N < 100000) (hv : ∀ x ∈ xs, Valid N x) (hop : ∀ x ∈ xs, 2 ≤ x.op ∧ x.op ≤ 15) (hp : xs.Pairwise (fun x y => x.dst < y.dst))
    (hkids : ∃ kb o s, kids.a = some ⟨kb, 0, none⟩ ∧ kids.l = 1 ∧ h.tr.get kb = some (.blk [.slice none 0 0] false o s)) (d1 : ∀ b, BlkOf blocks.v b → ¬ KnB K now b) (d2 : xs ≠ [] → ∀ b, BlkOf list.v b → ¬ KnB K now b ∧ ¬ BlkOf blocks.v b) (d3 : ∀ b, BlkOf kids.v b → ¬ KnB K now b ∧ ¬ BlkOf blocks.v b) (d4 : ¬ KnB K now f ∧ ¬ BlkOf blocks.v f) :
    Does FF n_value_known_walk [.pointer (some ⟨K, 0, none⟩), .int .i64 0, .map none] h (fun u h' => u = .tuple #[] ∧ Grows (fun b => KnB K now b ∨ BlkOf blocks.v b) h h' ∧ ∃ L : SV, AccOf encOwn h.next h' L.v (runV (initV N) xs).kept ∧ OneW n0 h' blocks L false n ∧
      Kn h' K f kids now (runV (initV N) xs).now (runV (initV N) xs).more) := by
  obtain ⟨⟨sK, hK⟩, hkl, hkt⟩ := id k
  obtain ⟨o1, s1, hf⟩ := hf
  obtain ⟨hbl, B, o2, s2, ha, hn0, hBk⟩ := id hB
  obtain ⟨kb, o3, s3, hka, hkl1, hkb⟩ := hkids
  simp at hK
  have oK := ok.old hK
  have hno : ∀ b, BlkOf now.v b → b < h.next := by
    rintro b ⟨off, m, cap, e⟩
    simp at e
    rcases hkt with ⟨_, e2⟩ | ⟨nb, s, e2, hb, _⟩
    · rw [e2] at e; cases e.1
    · rw [e2] at e; cases e.1; exact ok.wf _ _ hb
  have dK : ¬ BlkOf blocks.v K := fun e => d1 _ e (.inl rfl)
  have hBB : BlkOf blocks.v B := ⟨0, blocks.l, blocks.c, by simp [ha]⟩
  refine Does.of c_value_known_walk ?_
  unfold b_value_known_walk
  simp
  rw [runs_loop]
  unfold r_value_known_walk_3
  simp [Heap.new, Tr.get_set]
  refine OpsR.cut (fun h1 => Grows Nob h h1 ∧ h1.tr.get h.next = some (.map [])) ?_ ?_
  · have g1 := grow_newO ok (.map []) (by simp)
    have g2 := grow_newO g1.ok .itr (by simp)
    refine ⟨g1.trans g2, ?_⟩
    simp [Tr.get_set]
  rintro h1 ⟨g1, hM1⟩
  have k1 := k.grow ok g1 (fun _ _ h => h)
  obtain ⟨ow1, b1⟩ := (⟨hbl, B, o2, s2, ha, hn0, g1.get ok hBk (fun h => h)⟩ : OneW n0 h1 blocks list false n)
  refine OpsR.call (by simpa using phis_none g1.ok k1 ⟨o1, s1, g1.get ok hf (fun h => h)⟩ ⟨ow1, b1⟩) ?_
  rintro _ h2 ⟨rfl, g2, hB2⟩
  obtain ⟨_, B', o4, s4, ha', _, hBk2⟩ := id hB2
  rw [ha] at ha'
  cases ha'
  have hM2 := g2.get g1.ok hM1 (fun ⟨off, m, cap, e⟩ => by
    simp [ha] at e
    have := (ok.old hBk).lt
    omega)
  have k2 := k1.grow g1.ok g2 (fun b hb h => d1 _ h hb)
  have hf2 := g2.get g1.ok (g1.get ok hf (fun h => h)) d4.2
  have hkb2 := g2.get g1.ok (g1.get ok hkb (fun h => h)) ((d3 kb ⟨0, kids.l, kids.c, by simp [hka]⟩).2)
  obtain ⟨⟨sK2, hK2⟩, _, _⟩ := id k2
  simp at hK2 hBk2
  simp [fnCells] at hf2
  obtain ⟨la, lc, hle, hslx⟩ := id hsl
  simp at hle
  simp [hK2, hf2, ha, hbl, hBk2]
  have hl0 : list.l = xs.length := hle.2.1
  have hbb : ∀ j, j ≤ xs.length → ∃ c, Inv N c (runV (initV N) (xs.take j)) ∧ ∀ x ∈ xs.drop j, (c : Int) ≤ x.dst := inv_run hv hp (fun x hx => by obtain ⟨k, e, _⟩ := (hv x hx).dst; omega) (inv_init N)
  have l12 := g1.next
  have l2 := g2.next
  have hMo := g1.ok.old hM1
  refine Runs.loop (fun m e h3 => ∃ (j : Nat) (w : Value), m = xs.length - j ∧ j ≤ xs.length ∧ Env.get e 0 = .pointer (some ⟨K, 0, none⟩) ∧ Env.get e 1 = .int .i64 0 ∧ Env.get e 6 = .map (some h.next) ∧ Env.get e 9 = .pointer (some ⟨B, 0, none⟩) ∧ Env.get e 10 = w ∧ Env.get e 47 = .slice list.a xs.length list.c ∧ Env.get e 48 = .int .i64 xs.length ∧ Env.get e 49 = .int .i64 j ∧
      Pass h2 h.next h3 K f kids now h.next w (runV (initV N) (xs.take j))) ?_ (n := xs.length)
    ⟨0, .slice none 0 0, rfl, by omega, by simp, by simp, by simp, by simp, by simp, by simp [hl0], by simp [hl0], by simp, ⟨.refl g2.ok, by simpa [runV, initV] using k2, by simpa [runV, initV, mapOf] using hM2, .inl ⟨by simp [runV, initV], rfl⟩, Nat.le_refl _, by omega⟩⟩
  rintro m e h3 ⟨j, w, rfl, hj, f0, f1, f6, f9, f10, f47, f48, f49, P⟩
  by_cases hjl : j < xs.length
  · have hx : xs[j]? = some xs[j] := List.getElem?_eq_getElem hjl
    have hm := List.getElem_mem hjl
    have hdr : xs.drop j = xs[j] :: xs.drop (j + 1) := List.drop_eq_getElem_cons hjl
    generalize xs[j] = x at hx hm hdr
    obtain ⟨b', off, cap, hv1, _, ⟨cs', ro', o', s', hb'⟩, hrd⟩ := hsl.read hx
    obtain ⟨c, hI, hcur⟩ := hbb j hj
    have hbl' : BlkOf list.v b' := ⟨_, _, _, hv1⟩
    have ob' := (ok.old hb').lt
    have d2 := d2 (List.ne_nil_of_mem hm)
    have e3 : h3.tr.get b' = h.tr.get b' := by
      rw [P.g.same b' (by omega) (fun e => e.elim (d2 _ hbl').1 (fun e => by omega)), g2.same b' (by omega) (d2 _ hbl').2, g1.same b' ob' (fun h => h)]
    have hr := hrd 0 8 (by decide)
    have hr3 : readAt h3 b' (off + j * 8) 8 = some (encOwn.enc x) := by
      have e : readAt h3 b' (off + j * 8) 8 = readAt h b' (off + j * 8) 8 := by unfold readAt; rw [e3]
      rw [e]; simpa [-readAt_def] using hr
    have hla : list.a = some ⟨b', off, none⟩ := by simp at hv1; exact hv1.1
    refine round_walk hjl hlen hla hr3 (by have := P.g.next; show b' < h3.next; omega) (hv x hm) (hop x hm) P hI (hcur x (by rw [hdr]; exact List.mem_cons_self ..)) (by omega) ?_ oK.lt hno f0 f1 f6 f9 f10 f47 f48 f49 ?_
    · have : ∀ (l : List Own) (s : VS), (runV s l).kept.length ≤ s.kept.length + l.length := by
        intro l
        induction l with
        | nil => intro s; simp [runV]
        | cons y l ih =>
          intro s
          have h1 := ih (stepV s y)
          have h2 : (stepV s y).kept.length ≤ s.kept.length + 1 := by unfold stepV; split <;> simp
          show (runV (stepV s y) l).kept.length ≤ _
          simp; omega
      have := this (xs.take j) (initV N)
      simp [initV] at this
      have := List.length_take_le j xs
      simp [initV]; omega
    · intro e' h' w' P' q0 q1 q6 q9 q10 q47 q48 q49
      exact ⟨xs.length - (j + 1), by omega, j + 1, w', rfl, by omega, q0, q1, q6, q9, q10, q47, q48, q49, by rw [runV_take hx]; exact P'⟩
  · have : j = xs.length := by omega
    subst this
    rw [List.take_length] at P
    have hT : (runV (initV N) xs).now.length < 1000000 := by
      obtain ⟨c, hI, _⟩ := hbb xs.length (Nat.le_refl _)
      rw [List.take_length] at hI
      rw [hI.len]; omega
    generalize runV (initV N) xs = s at P hT ⊢
    obtain ⟨L, hL⟩ := AccOf.sv P.kept
    have hBk3 := P.g.get g2.ok hBk2 (fun e => e.elim (d1 B hBB) (fun e => by have := (ok.old hBk).lt; omega))
    have oB3 := P.g.ok.old hBk3
    unfold r_value_known_walk_2
    rw [hL] at f10 P
    simp [f0, f1, f9, f10, f47, f48, f49, hBk3]
    have hkB : ¬ KnB K now B := d1 B hBB
    have lB := (ok.old hBk).lt
    refine OpsR.cut (fun h4 => Grows (fun b => b = B) h3 h4 ∧ ∃ t, h4.tr.get B = some (.blk [.slice none 0 0, .slice L.a L.l L.c, .int .i64 1, .bool false, .int .i64 n, .slice none 0 0] false o4 t)) ?_ ?_
    · exact ⟨grow_put P.g.ok hBk3, h3.clock, by simp⟩
    rintro h4 ⟨g4, t4, hB4⟩
    have k4 := P.kn.grow P.g.ok g4 (fun b hb e => hkB (e ▸ hb))
    have hA4 := P.kept.grow P.g.ok g4 (fun b hb e => by have := P.kept.of hb; omega)
    refine OpsR.call (by simpa using kval_does g4.ok k4 (r := false) (n := n) (fun e => by cases e) hT) ?_
    rintro _ h5 ⟨rfl, g5⟩
    have k5 := k4.grow g4.ok g5 (fun _ _ h => h)
    have hA5 := hA4.grow g4.ok g5 (fun _ _ h => h)
    have hB5 := g5.get g4.ok hB4 (fun h => h)
    have hkb5 := g5.get g4.ok (g4.get P.g.ok (P.g.get g2.ok hkb2 (fun e => e.elim (d3 kb ⟨0, kids.l, kids.c, by simp [hka]⟩).1 (fun e => by have := (ok.old hkb).lt; omega))) (fun e => (d3 kb ⟨0, kids.l, kids.c, by simp [hka]⟩).2 (e ▸ hBB))) (fun h => h)
    obtain ⟨⟨sK5, hK5⟩, _, _⟩ := id k5
    simp at hK5
    have nKB : ¬ K = B := fun e => hkB (.inl e.symm)
    have nkB : ¬ kb = B := fun e => (d3 kb ⟨0, kids.l, kids.c, by simp [hka]⟩).2 (e ▸ hBB)
    simp [curM, hB5, f0, f1, hK5, nKB, hka, hkl1, hkb5, nkB]
    rw [runs_loop]
    unfold r_value_known_walk_0
    simp
    have g6 : Grows (fun b => b = B) h5 (put h5 B 3 [.slice none 0 0, .slice L.a L.l L.c, .int .i64 1, .bool false, .int .i64 n, .slice none 0 0] [.bool false, .int .i64 n] o4) := grow_put g5.ok hB5
    have hB6 : BlkOf (Value.slice (some { block := B, off := 0 }) 1 blocks.c) B := ⟨_, _, _, rfl⟩
    have k6 := k5.grow g5.ok g6 (fun b hb e => hkB (e ▸ hb))
    refine ⟨?_, L, ?_, ⟨hbl, B, o4, h5.clock, ha, hn0, by simp⟩, k6⟩
    · have q2 : Grows (fun b => KnB K now b ∨ BlkOf (Value.slice (some { block := B, off := 0 }) 1 blocks.c) b) h h2 := g1.nob.trans (g2.weak fun b _ h => .inr (by simpa [ha, hbl] using h))
      have q3 := q2.trans' P.g (fun _ _ h => h) (fun b hb h => h.elim .inl (fun e => by omega))
      have q4 := q3.trans' g4 (fun _ _ h => h) (fun b _ e => .inr (e ▸ hB6))
      exact (q4.trans g5.nob).trans' g6 (fun _ _ h => h) (fun b _ e => .inr (e ▸ hB6))
    · exact hA5.grow g5.ok g6 (fun b hb e => by have := P.kept.of hb; omega)
end Go.Proofs.YtigniafapkbbbaaGreatDoor
