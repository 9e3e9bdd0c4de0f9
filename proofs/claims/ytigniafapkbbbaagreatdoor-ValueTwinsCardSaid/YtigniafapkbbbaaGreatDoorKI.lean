/- Contract: tidy.NamesOf of a function of one block. -/
import Derived.Test.YtigniafapkbbbaaGreatDoorKH
namespace Go.Proofs.YtigniafapkbbbaaGreatDoor
open Go.AI

/-- the list, when the first j of it have been written anew -/
def LW (h : Heap) (L : SV) (ks : List Own) (j : Nat) : Prop := ks = [] ∨ ∃ (d : Nat) (ys : List Own) (s : Nat), L.a = some ⟨d, 0, none⟩ ∧ h.tr.get d = some (.blk (encOwn.flat ys) false 8 s) ∧ ys.length = ks.length ∧ ∀ i, j ≤ i → ys[i]? = ks[i]?

theorem names_one {h : Heap} (ok : HOk h) {name : ByteArray} {p N : Nat} {blocks L : SV} {r : Bool} {n : Int} {ks : List Own} {n0 : Nat} (hB : OneB h blocks nilS L r n nilS) (hA : AccOf encOwn n0 h L.v ks) (hpN : p ≤ N) (hN : N < 100000) (hlen : ks.length < 100000) (hv : ∀ x ∈ ks, Valid N x) (hon : r = true → ∃ k : Nat, n = k ∧ k < N) :
    Does FF n_tidy_NamesOf [.agg ⟨fnCells name p N blocks⟩] h (fun v h' => Grows (fun b => BlkOf L.v b) h h' ∧ ∃ (blocks' : SV) (R : Nat) (m : Int), v = .agg ⟨fnCells name p R blocks'⟩ ∧ R ≤ N ∧ OneW h.next h' blocks' L r m ∧ (r = false → m = n)) := by
  have w1 : IntKind.i64.wrap (0 + 1) = 1 := wrap_i64 _ (by omega) (by omega)
  have w1' : IntKind.i64.wrap 1 = 1 := wrap_i64 _ (by omega) (by omega)
  have hLl : L.l = ks.length := by
    rcases hA with ⟨rfl, e⟩ | ⟨b, s, e, _⟩
    · simp at e; exact e.2.1
    · simp at e; exact e.2.1
  refine Does.of c_tidy_NamesOf ?_
  unfold b_tidy_NamesOf
  simp [fnCells]
  refine DrawR.cut (fun h1 => Grows Nob h h1 ∧ h1.tr.get h.next = some (.blk (fnCells name p N blocks) false 0 0) ∧ h1.tr.get (h.next + 1) = some (.blk [.string ⟨⟨[]⟩⟩, .int .i64 0, .int .i64 0, .slice none 0 0] false 0 0)) ?_ ?_
  · exact ⟨(((Grows.refl ok).new _ _).new _ _).tick, by simp [fnCells], by simp⟩
  rintro h1 ⟨g1, hF1, hR1⟩
  refine DrawR.call (by simpa [fnCells] using order_does g1.ok (name := name) (params := p) (regs := N) (hB.grow ok g1) rfl) ?_
  rintro _ h2 ⟨g2, od, rfl, hod, s2, hod2⟩
  have gg2 := g1.trans g2
  have hF2 := g2.get g1.ok hF1 (fun h => h)
  have hR2 := g2.get g1.ok hR1 (fun h => h)
  simp [hF2]
  refine DrawR.call (V := fun v h' => Grows Nob h2 h' ∧ ∃ blocks' : SV, v = .agg ⟨fnCells name p N blocks'⟩ ∧ OneW h2.next h' blocks' L r n) (by simpa [fnCells] using keep_one gg2.ok (name := name) (p := p) (N := N) (hB.grow ok gg2) (oc := 1) hod2) ?_
  rintro _ h3 ⟨g3, B, rfl, hB3⟩
  have gg3 := gg2.trans g3
  have hF3 := g3.get gg2.ok hF2 (fun h => h)
  have hR3 := g3.get gg2.ok hR2 (fun h => h)
  have hF3' : h3.tr.get h.next = some (.blk [.string name, .int .i64 p, .int .i64 N, .slice blocks.a blocks.l blocks.c] false 0 0) := hF3
  have lt2 : h.next + 1 < h2.next := gg2.ok.old hR2
  obtain ⟨hBl, b, o3, s3, hBa, hbn, hb3⟩ := hB3
  have oF3 := gg3.ok.old hF3
  have lt3 : h2.next ≤ h3.next := g3.next
  simp [fnCells, hF3', hBl, hBa, repl, oF3]
  refine OpsR.cut (fun h4 => Grows Nob h h4 ∧ h3.next ≤ h4.next ∧ (∃ s, h4.tr.get h.next = some (.blk [.string name, .int .i64 p, .int .i64 N, .slice (some ⟨b, 0, none⟩) 1 B.c] false 0 s)) ∧ h4.tr.get (h.next + 1) = some (.blk [.string ⟨⟨[]⟩⟩, .int .i64 0, .int .i64 0, .slice none 0 0] false 0 0) ∧
      (∃ o s, h4.tr.get b = some (.blk [.slice none 0 0, L.v, .int .i64 1, .bool r, .int .i64 n, .slice none 0 0] false o s)) ∧ ∃ o s, h4.tr.get h3.next = some (.blk [.int .i64 (-1)] false o s)) ?_ ?_
  · have e1 : ¬ h.next + 1 = h3.next := by omega
    have e2 : ¬ b = h.next := by omega
    have e3 : ¬ b = h3.next := by have := (gg3.ok.old hb3).lt; omega
    exact ⟨(gg3.put ⟨0, by simpa [fnCells] using hF3⟩ (.inl (Nat.le_refl _))).new _ _, by simp, ⟨h3.clock, by simp [oF3]⟩, by simp [e1, hR3], ⟨o3, s3, by simp [e2, e3, hb3]⟩, 0, 0, by simp⟩
  rintro h4 ⟨g4, lt4, ⟨s4, hF4⟩, hR4, ⟨o5, s5, hb4⟩, o6, s6, hM4⟩
  refine OpsR.call (V := fun v h' => Grows Nob h4 h' ∧ ∃ d s, v = .slice (some ⟨d, 0, none⟩) N N ∧ h4.next ≤ d ∧ h'.tr.get d = some (.blk (encI.flat (List.replicate N (-1))) false 0 s)) (by simpa using repeat_i g4.ok N (by omega) hM4) ?_
  rintro _ h5 ⟨g5, now, s7, rfl, hnow, hnw5⟩
  have gg5 := g4.trans g5
  have hF5 := g5.get g4.ok hF4 (fun h => h)
  have hR5 := g5.get g4.ok hR4 (fun h => h)
  have hb5 := g5.get g4.ok hb4 (fun h => h)
  have oF5 := gg5.ok.old hF5
  have ltb : b < h4.next := g4.ok.wf _ _ hb4
  simp [hF5, oF5]
  have on5 := gg5.ok.old hnw5
  refine Runs.cut (fun h6 => Grows Nob h5 h6 ∧ h6.tr.get h5.next = some (.blk [.slice (some ⟨now, 0, none⟩) N N, .int .i64 0] false 0 0)) ?_ ?_
  · exact ⟨(Grows.refl gg5.ok).new _ _, by simp⟩
  rintro h60 ⟨g60, hm6⟩
  have ltn : now < h5.next := on5.lt
  have k60 : Nmr h60 h5.next now N 0 := ⟨List.replicate N (-1), 0, s7, hm6, g60.get gg5.ok hnw5 (fun h => h), by simp, by simp [List.countP_replicate], by omega⟩
  refine Runs.loop (fun m e hh => ∃ (i many : Nat), m = p - i ∧ i ≤ p ∧ Env.get e 1 = .pointer (some ⟨h.next, 0, none⟩) ∧ Env.get e 2 = .pointer (some ⟨h.next + 1, 0, none⟩) ∧ Env.get e 3 = .pointer (some ⟨h5.next, 0, none⟩) ∧ Env.get e 34 = .int .i64 p ∧ Env.get e 35 = .int .i64 i ∧ Grows (fun x => x = h5.next ∨ x = now) h60 hh ∧ Nmr hh h5.next now N many) ?_ (n := p)
    ⟨0, 0, rfl, by omega, by simp, by simp, by simp, by simp, by simp, .refl g60.ok, k60⟩
  rintro m e h6 ⟨i, many9, rfl, hi, f1, f2, f3, f34, f35, g606, k6⟩
  unfold r_tidy_NamesOf_9
  by_cases hip : i < p
  · obtain ⟨i', hi'⟩ : ∃ i', i' = i + 1 := ⟨_, rfl⟩
    have wi : IntKind.i64.wrap ((i : Int) + 1) = (i' : Int) := by rw [wrap_i64 _ (by omega) (by omega)]; omega
    simp [f1, f2, f3, f34, f35, hip]
    refine OpsR.call (V := NaQ h5.next now N h6) (by simpa using name_q g606.ok hN (show i < N by omega) k6) ?_
    rintro _ h8 ⟨g8, m8, many8, rfl, k8⟩
    simp [f1, f2, f3, f34, f35, wi]
    exact ⟨p - i', by omega, i', rfl, by omega, rfl, g606.trans g8, many8, k8⟩
  have : i = p := by omega
  subst this
  have gg6 : Grows Nob h h6 := (gg5.trans g60).trans' g606 (fun _ _ h => h) (by rintro x hx (rfl | rfl) <;> omega)
  have g6 : Grows (fun x => x = h5.next ∨ x = now) h5 h6 := g60.nob.trans g606
  have hF6 := g6.get gg5.ok hF5 (by omega)
  have hR6 := g6.get gg5.ok hR5 (by omega)
  have hb6 := g6.get gg5.ok hb5 (by omega)
  have ob6 := gg6.ok.old hb6
  have oF6 := gg6.ok.old hF6
  simp [f1, f2, f3, f34, f35, hF6]
  rw [runs_loop]
  unfold r_tidy_NamesOf_8
  have hb6' : h6.tr.get b = some (.blk [.slice none 0 0, .slice L.a L.l L.c, .int .i64 1, .bool r, .int .i64 n, .slice none 0 0] false o5 s5) := hb6
  simp [hb6', ob6]
  rw [runs_loop]
  unfold r_tidy_NamesOf_7
  simp
  refine Runs.cut (fun h7 => Grows Nob h6 h7 ∧ ∃ s, h7.tr.get h6.next = some (.blk [.slice none 0 0, .slice L.a L.l L.c, .int .i64 1, .bool r, .int .i64 n, .slice none 0 0] false 0 s)) ⟨(Grows.refl gg6.ok).var _ _, h6.clock, by simp⟩ ?_
  rintro h7 ⟨g7, sv, hV7⟩
  have gg7 := gg6.trans g7
  have l6 : h5.next < h6.next := by have : h5.next < h60.next := g60.ok.old hm6; have := g606.next; omega
  -- the first walk
  refine Runs.loop (fun mm e hh => ∃ (j many : Nat), mm = ks.length - j ∧ j ≤ ks.length ∧ Env.get e 1 = .pointer (some ⟨h.next, 0, none⟩) ∧ Env.get e 2 = .pointer (some ⟨h.next + 1, 0, none⟩) ∧ Env.get e 3 = .pointer (some ⟨h5.next, 0, none⟩) ∧ Env.get e 6 = .pointer (some ⟨h6.next, 0, none⟩) ∧
      Env.get e 44 = .int .i64 1 ∧ Env.get e 45 = .int .i64 0 ∧ Env.get e 62 = .slice L.a ks.length L.c ∧ Env.get e 63 = .int .i64 ks.length ∧ Env.get e 64 = .int .i64 j ∧ Grows (fun x => x = h5.next ∨ x = now) h7 hh ∧ Nmr hh h5.next now N many) ?_ (n := ks.length)
    ⟨0, many9, rfl, by omega, by simp [f1], by simp [f2], by simp [f3], by simp, by simp, by simp, by simp [hLl], by simp [hLl], by simp, .refl g7.ok, k6.grow gg6.ok g7 id id⟩
  rintro mm e hh ⟨j, many, rfl, hj, f1, f2, f3, f6, f44, f45, f62, f63, f64, gh, kh⟩
  have ghh : Grows Nob h hh := gg7.trans' gh (fun _ _ h => h) (by rintro x hx (rfl | rfl) <;> omega)
  by_cases hjl : j < ks.length
  · have hxj : ks[j]? = some ks[j] := List.getElem?_eq_getElem hjl
    have hxv := hv _ (List.getElem_mem hjl)
    generalize ks[j] = x at hxj hxv
    have hsl : SliceOf encOwn hh (.slice L.a ks.length L.c) ks := by have := hA.sl.nob ok ghh; rw [SV.v_def, hLl] at this; exact this
    obtain ⟨b', off, cap', hv', _, ⟨csb, rob, obb, sbb, hbb⟩, hrd⟩ := hsl.read hxj
    injection hv' with hv1 hv2 hv3
    have hr0 := hrd 0 8 (by simp)
    simp only [encOwn_sz, Nat.add_zero, List.drop_zero] at hr0
    rw [List.take_of_length_le (by simp)] at hr0
    refine walk_round ghh.ok hN hjl hlen hv1 hr0 (ghh.ok.old hbb) hxv kh f3 f62 f63 f64 ?_
    intro e' h' many' hE f64' g' k'
    simp
    refine ⟨ks.length - (j + 1), by omega, j + 1, rfl, by omega, ?_, ?_, ?_, ?_, ?_, ?_, ?_, ?_, ?_, gh.trans g', many', k'⟩
    · rw [hE 1 (by decide), f1]
    · rw [hE 2 (by decide), f2]
    · rw [hE 3 (by decide), f3]
    · rw [hE 6 (by decide), f6]
    · rw [hE 44 (by decide), f44]
    · rw [hE 45 (by decide), f45]
    · rw [hE 62 (by decide), f62]
    · rw [hE 63 (by decide), f63]
    · simpa using f64'
  · have : j = ks.length := by omega
    subst this
    have nV : ¬ (h6.next = h5.next ∨ h6.next = now) := by omega
    have nF : ¬ (h.next = h5.next ∨ h.next = now) := by omega
    have nR : ¬ (h.next + 1 = h5.next ∨ h.next + 1 = now) := by omega
    have nb : ¬ (b = h5.next ∨ b = now) := by omega
    have hVh := gh.get g7.ok hV7 nV
    have hFh := gh.get g7.ok (g7.get gg6.ok hF6 (fun h => h)) nF
    have hRh := gh.get g7.ok (g7.get gg6.ok hR6 (fun h => h)) nR
    have hbh := gh.get g7.ok (g7.get gg6.ok hb6' (fun h => h)) nb
    have e64 : ¬ ((ks.length : Int) < (ks.length : Int)) := by omega
    unfold r_tidy_NamesOf_6
    simp [f1, f2, f3, f6, f44, f45, f62, f63, f64, hVh]
    refine OpsR.call (V := NvQ h5.next now N r n hh) (by simpa using nval_q ghh.ok hN hon kh) ?_
    rintro _ h8 ⟨g8, m8, many8, rfl, _, k8⟩
    have ghh8 : Grows Nob h h8 := ghh.trans' g8 (fun _ _ h => h) (by rintro x hx (rfl | rfl) <;> omega)
    have hF8 := g8.get ghh.ok hFh nF
    have hR8 := g8.get ghh.ok hRh nR
    have hb8 := g8.get ghh.ok hbh nb
    have ob8 := ghh8.ok.old hb8
    simp [f1, f2, f3, f6, f44, f45, w1, w1']
    rw [runs_loop]
    try unfold r_tidy_NamesOf_8
    simp [f1, f2, f3, f44, hF8]
    rw [runs_loop]
    unfold r_tidy_NamesOf_4
    simp [hb8, ob8]
    rw [runs_loop]
    unfold r_tidy_NamesOf_3
    simp
    refine Runs.cut (fun h9 => Grows Nob h8 h9 ∧ ∃ s, h9.tr.get h8.next = some (.blk [.slice none 0 0, .slice L.a L.l L.c, .int .i64 1, .bool r, .int .i64 n, .slice none 0 0] false 0 s)) ⟨(Grows.refl ghh8.ok).var _ _, h8.clock, by simp⟩ ?_
    rintro h9 ⟨g9, sw, hW9⟩
    have gg9 := ghh8.trans g9
    have k9 := k8.grow g8.ok g9 id id
    have l8 : h6.next < h8.next := by have := gh.next; have := g8.next; have := g7.ok.old hV7; have := this.lt; omega
    -- the second walk
    have okL : ∀ x, BlkOf L.v x → x < h.next := by
      rintro x ⟨off, nn, cap, e⟩
      rcases hA with ⟨_, e2⟩ | ⟨b2, s2, e2, hb2, _⟩
      · rw [e2] at e; cases e
      · rw [e2] at e; cases e; exact ok.wf _ _ hb2
    have hLW : LW h9 L ks 0 := by
      rcases hA with ⟨e, _⟩ | ⟨b2, s2, e2, hb2, _⟩
      · exact .inl e
      · refine .inr ⟨b2, ks, s2, ?_, gg9.get ok hb2 (fun h => h), rfl, fun _ _ => rfl⟩
        simp at e2
        exact e2.1
    refine Runs.loop (fun mm e hh => ∃ (j many : Nat), mm = ks.length - j ∧ j ≤ ks.length ∧ Env.get e 1 = .pointer (some ⟨h.next, 0, none⟩) ∧ Env.get e 2 = .pointer (some ⟨h.next + 1, 0, none⟩) ∧ Env.get e 3 = .pointer (some ⟨h5.next, 0, none⟩) ∧ Env.get e 13 = .int .i64 0 ∧ Env.get e 14 = .pointer (some ⟨h8.next, 0, none⟩) ∧
        Env.get e 103 = .int .i64 1 ∧ Env.get e 104 = .int .i64 0 ∧ Env.get e 144 = .slice L.a ks.length L.c ∧ Env.get e 145 = .int .i64 ks.length ∧ Env.get e 146 = .int .i64 j ∧ Grows (fun x => (x = h5.next ∨ x = now) ∨ BlkOf L.v x) h9 hh ∧ Nmr hh h5.next now N many ∧ LW hh L ks j) ?_ (n := ks.length)
      ⟨0, many8, rfl, by omega, by simp [f1], by simp [f2], by simp [f3], by simp, by simp, by simp, by simp, by simp [hLl], by simp [hLl], by simp, .refl g9.ok, k9, hLW⟩
    rintro mm e hh ⟨j, many, rfl, hj, f1, f2, f3, f13, f14, f103, f104, f144, f145, f146, gh, kh, hLW⟩
    have nT : ¬ ((h8.next = h5.next ∨ h8.next = now) ∨ BlkOf L.v h8.next) := by rintro (e | e); omega; have := okL _ e; omega
    have hTh := gh.get g9.ok hW9 nT
    by_cases hjl : j < ks.length
    · obtain ⟨d, ys, s10, hLa, hd, hyl, hyj⟩ : ∃ (d : Nat) (ys : List Own) (s : Nat), L.a = some ⟨d, 0, none⟩ ∧ hh.tr.get d = some (.blk (encOwn.flat ys) false 8 s) ∧ ys.length = ks.length ∧ ∀ i, j ≤ i → ys[i]? = ks[i]? := by
        rcases hLW with e | e
        · subst e; simp at hjl
        · exact e
      have hBd : BlkOf L.v d := ⟨0, L.l, L.c, by rw [SV.v_def, hLa]⟩
      have ltd := okL d hBd
      have hxj : ks[j]? = some ks[j] := List.getElem?_eq_getElem hjl
      have hxv := hv _ (List.getElem_mem hjl)
      generalize ks[j] = x at hxj hxv
      have hyx : ys[j]? = some x := by rw [hyj j (Nat.le_refl _), hxj]
      rw [hLa, hLl] at hTh
      rw [hLa] at f144
      refine write_round gh.ok hN hjl hlen hyl hyx hxv kh hTh hd (by omega) (by omega) (by omega) (by omega) (by omega) f3 f14 f144 f145 f146 ?_
      intro e' h' many' y hE f146' g' k' hd'
      obtain ⟨s11, hd'⟩ := hd'
      simp
      refine ⟨ks.length - (j + 1), by omega, j + 1, rfl, by omega, ?_, ?_, ?_, ?_, ?_, ?_, ?_, ?_, ?_, ?_, gh.trans (g'.weak fun x _ hx => ?_), ⟨many', k'⟩, .inr ⟨d, ys.set j y, s11, hLa, hd', by simpa using hyl, fun i hi => ?_⟩⟩
      · rw [hE 1 (by omega), f1]
      · rw [hE 2 (by omega), f2]
      · rw [hE 3 (by omega), f3]
      · rw [hE 13 (by omega), f13]
      · rw [hE 14 (by omega), f14]
      · rw [hE 103 (by omega), f103]
      · rw [hE 104 (by omega), f104]
      · rw [hE 144 (by omega), f144, hLa]
      · rw [hE 145 (by omega), f145]
      · simpa using f146'
      · rcases hx with hx | rfl
        · exact .inl hx
        · exact .inr hBd
      · rw [List.getElem?_set, if_neg (by omega)]; exact hyj i (by omega)
    · have : j = ks.length := by omega
      subst this
      have nF : ¬ ((h.next = h5.next ∨ h.next = now) ∨ BlkOf L.v h.next) := by rintro (e | e); omega; have := okL _ e; omega
      have nR : ¬ ((h.next + 1 = h5.next ∨ h.next + 1 = now) ∨ BlkOf L.v (h.next + 1)) := by rintro (e | e); omega; have := okL _ e; omega
      have nb : ¬ ((b = h5.next ∨ b = now) ∨ BlkOf L.v b) := by rintro (e | e); omega; have := okL _ e; omega
      have hFh := gh.get g9.ok (g9.get g8.ok hF8 (fun h => h)) nF
      have hRh := gh.get g9.ok (g9.get g8.ok hR8 (fun h => h)) nR
      have hbh := gh.get g9.ok (g9.get g8.ok hb8 (fun h => h)) nb
      have ghh : Grows (fun x => BlkOf L.v x) h hh := gg9.trans' gh (fun _ _ h => h.elim) (by rintro x hx ((rfl | rfl) | e); omega; omega; exact e)
      have oFh := gh.ok.old hFh
      unfold r_tidy_NamesOf_1
      simp [f1, f2, f3, f13, f14, f103, f104, f144, f145, f146, hTh, hFh]
      have gt : Grows Nob hh (tick hh) := grow_tick gh.ok
      refine DrawR.call (V := NvQ h5.next now N r n (tick hh)) (by simpa using nval_q gt.ok hN hon (kh.grow gh.ok gt id id)) ?_
      rintro _ h10 ⟨g10, m10, many10, rfl, hm10, k10⟩
      have gt10 : Grows (fun x => x = h5.next ∨ x = now) hh h10 := gt.nob.trans g10
      have nF1 : ¬ (h.next = h5.next ∨ h.next = now) := by omega
      have nR1 : ¬ (h.next + 1 = h5.next ∨ h.next + 1 = now) := by omega
      have nb1 : ¬ (b = h5.next ∨ b = now) := by omega
      have hF10 := gt10.get gh.ok hFh nF1
      have hR10 := gt10.get gh.ok hRh nR1
      have hb10 := gt10.get gh.ok hbh nb1
      obtain ⟨ws, t1, t2, hm1, hm2, hm3, hm4, hm5⟩ := id k10
      have hst : s4 ≤ hh.clock := gh.ok.st _ _ _ _ _ hFh
      have nbF : ¬ b = h.next := by omega
      have nFb : ¬ h.next = b := by omega
      have nRb : ¬ h.next + 1 = b := by omega
      have nmb : ¬ h5.next = b := by omega
      have nmF : ¬ h5.next = h.next := by omega
      have nRF : ¬ h.next + 1 = h.next := by omega
      have nbR : ¬ b = h.next + 1 := by omega
      simp [f1, f2, f3, f13, f14, f103, f104, hF10, hst, hb10, w1, w1']
      rw [runs_loop]
      try unfold r_tidy_NamesOf_4
      simp [f1, f2, f3, f103, hF10, hR10, hm1, nmb, nFb, nRb, nmF]
      have ghh10 : Grows (fun x => BlkOf L.v x) h h10 := ghh.trans' gt10 (fun _ _ h => h) (by rintro x hx (rfl | rfl) <;> omega)
      refine ⟨?_, ⟨some ⟨b, 0, none⟩, 1, B.c⟩, many10, ⟨rfl, rfl, rfl, rfl⟩, k10.le, m10, ⟨rfl, b, o5, h10.clock, rfl, by omega, by simp [nbF, nbR]⟩, hm10⟩
      refine Grows.put (Grows.put (ghh10.put ⟨_, hb10⟩ (.inl (by omega))) ⟨s4, ?_⟩ (.inl (Nat.le_refl _))) ⟨0, ?_⟩ (.inl (by omega))
      · simp [nFb, hF10]
      · simp [nRb, nRF, hR10]
end Go.Proofs.YtigniafapkbbbaaGreatDoor

/- Contracts: tidy.DoOf, graph.Large, of a function of one block. -/
namespace Go.Proofs.YtigniafapkbbbaaGreatDoor
open Go.AI

theorem tidy_one {h : Heap} (ok : HOk h) {name : ByteArray} {p N : Nat} {blocks L : SV} {r : Bool} {n : Int} {ks : List Own} {n0 : Nat} (hB : OneB h blocks nilS L r n nilS) (hA : AccOf encOwn n0 h L.v ks) (hpN : p ≤ N) (hN : N < 100000) (hlen : ks.length < 100000) (hv : ∀ x ∈ ks, Valid N x) (hon : r = true → ∃ k : Nat, n = k ∧ k < N) :
    Does FF n_tidy_DoOf [.agg ⟨fnCells name p N blocks⟩] h (fun v h' => Grows (fun b => BlkOf L.v b) h h' ∧ ∃ (blocks' : SV) (R : Nat) (m : Int), v = .agg ⟨fnCells name p R blocks'⟩ ∧ R ≤ N ∧ OneW h.next h' blocks' L r m ∧ (r = false → m = n)) := by
  have okL : ∀ x, BlkOf L.v x → x < h.next := by
    rintro x ⟨off, nn, cap, e⟩
    rcases hA with ⟨_, e2⟩ | ⟨b2, s2, e2, hb2, _⟩
    · rw [e2] at e; cases e
    · rw [e2] at e; cases e; exact ok.wf _ _ hb2
  refine Does.of c_tidy_DoOf ?_
  unfold b_tidy_DoOf
  simp [fnCells]
  refine DrawR.cut (fun h1 => Grows Nob h h1 ∧ h1.tr.get h.next = some (.blk (fnCells name p N blocks) false 0 0) ∧ h1.tr.get (h.next + 1) = some (.blk [.string ⟨⟨[]⟩⟩, .int .i64 0, .int .i64 0, .slice none 0 0] false 0 0)) ?_ ?_
  · exact ⟨(((Grows.refl ok).new _ _).new _ _).tick, by simp [fnCells], by simp⟩
  rintro h1 ⟨g1, hF1, hR1⟩
  refine DrawR.call (by simpa [fnCells] using order_does g1.ok (name := name) (params := p) (regs := N) (hB.grow ok g1) rfl) ?_
  rintro _ h2 ⟨g2, od, rfl, hod, s2, hod2⟩
  have gg2 := g1.trans g2
  have hF2 := g2.get g1.ok hF1 (fun h => h)
  have hR2 := g2.get g1.ok hR1 (fun h => h)
  simp [hF2]
  refine DrawR.call (V := fun v h' => Grows Nob h2 h' ∧ ∃ blocks' : SV, v = .agg ⟨fnCells name p N blocks'⟩ ∧ OneW h2.next h' blocks' L r n) (by simpa [fnCells] using keep_one gg2.ok (name := name) (p := p) (N := N) (hB.grow ok gg2) (oc := 1) hod2) ?_
  rintro _ h3 ⟨g3, B, rfl, hB3⟩
  have gg3 := gg2.trans g3
  simp
  refine DrawR.call (V := fun v h' => Grows Nob h3 h' ∧ v = .agg ⟨fnCells name p N B⟩) (by simpa [fnCells] using chains_one gg3.ok (name := name) (p := p) (N := N) hB3.one) ?_
  rintro _ h4 ⟨g4, rfl⟩
  have gg4 := gg3.trans g4
  simp
  refine DrawR.call (V := fun v h' => Grows (fun b => BlkOf L.v b) h4 h' ∧ ∃ (blocks' : SV) (R : Nat) (m : Int), v = .agg ⟨fnCells name p R blocks'⟩ ∧ R ≤ N ∧ OneW h4.next h' blocks' L r m ∧ (r = false → m = n)) (by simpa [fnCells] using names_one gg4.ok (name := name) (N := N) (hB3.one.grow gg3.ok g4) (hA.grow ok gg4 (fun _ _ h => h)) hpN hN hlen hv hon) ?_
  rintro _ h5 ⟨g5, B5, R, m, rfl, hR, hB5, hm⟩
  have gg5 : Grows (fun b => BlkOf L.v b) h h5 := gg4.nob.trans g5
  have hR4 := (g3.trans g4).get gg2.ok hR2 (fun h => h)
  have lt4 : h.next + 1 < h4.next := gg4.ok.old hR4
  have hR5 := g5.get gg4.ok hR4 (fun e => by have := okL _ e; omega)
  obtain ⟨e1, b5, o5, s5, e2, e3, e4⟩ := hB5
  have nb : ¬ b5 = h.next + 1 := by omega
  simp [fnCells, hR5]
  refine ⟨gg5.put ⟨_, hR5⟩ (.inl (by omega)), B5, R, ⟨rfl, rfl, rfl, rfl⟩, hR, m, ⟨e1, b5, o5, s5, e2, by omega, by simp [nb, e4]⟩, hm⟩

theorem large_one {h : Heap} (ok : HOk h) {name : ByteArray} {p N : Int} {blocks list : SV} {r : Bool} {n : Int} (hB : OneB h blocks nilS list r n nilS) (hll : list.l ≤ 300) (hN : N ≤ 100) :
    Does FF n_graph_Large [.agg ⟨fnCells name p N blocks⟩] h (fun v h' => v = .bool false ∧ Grows Nob h h') := by
  obtain ⟨hl, b, ro, o, s, ha, hb⟩ := id hB
  have w1 : IntKind.i64.wrap (0 + 1) = 1 := wrap_i64 _ (by omega) (by omega)
  have w1' : IntKind.i64.wrap 1 = 1 := wrap_i64 _ (by omega) (by omega)
  have w0 : IntKind.i64.wrap 0 = 0 := wrap_i64 _ (by omega) (by omega)
  have oB := ok.old hb
  have hN' : ¬ 100 < N := by omega
  have hL' : ¬ (300 : Int) < list.l := by omega
  have wl : IntKind.i64.wrap (list.l : Int) = list.l := wrap_i64 _ (by omega) (by omega)
  have hb' : h.tr.get b = some (.blk [.slice none 0 0, .slice list.a list.l list.c, .int .i64 1, .bool r, .int .i64 n, .slice none 0 0] ro o s) := by rw [hb]; simp [blkCells, nilS]
  refine Does.of c_graph_Large ?_
  unfold b_graph_Large
  simp [fnCells, hl, ha]
  rw [runs_loop]
  unfold r_graph_Large_0
  simp [hb', oB, w0, w1, w1', wl]
  rw [runs_loop]
  simp [hN', hL']
  exact ((Grows.refl ok).new _ _).var _ _

end Go.Proofs.YtigniafapkbbbaaGreatDoor
