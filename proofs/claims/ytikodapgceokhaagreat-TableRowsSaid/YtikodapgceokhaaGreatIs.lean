/-
  The law's is: a table and an error are the document's.
-/
import Derived.Test.YtikodapgceokhaaGreatRmB
import Derived.Test.YtikodapgceokhaaGreatChecks
namespace Go.Proofs.YtikodapgceokhaaGreat
open Go.RowKit

theorem OwnTab.on {w0 w w' : World} {v : Value} {t : Tb} (h : OwnTab w0 w v t) (hf : w.Fr w' []) : OwnTab w0 w' v t :=
  h.kept (L := []) hf (h.fr.trans hf (by simp)) (fun _ _ _ _ _ _ => ⟨fun k _ => by simp, fun k _ => by simp, fun i hv r _ _ _ k _ => by simp⟩)

set_option maxRecDepth 100000 in
set_option maxHeartbeats 2000000 in
theorem is30L {L : List Nat} {w : World} {v1 v2 : Value} {s t : Tb} {e f : Int} (h1 : Lent L w v1 s) (h2 : RdTab w v2 t) (ss : Small s) :
    Calls Tryz.prog 30 #[v1, .int .i64 e, v2, .int .i64 f] w fun x w' => x = .returned (.bool (sameB s t && (e == f))) ∧ w.Fr w' L := by
  obtain ⟨B, hB⟩ : ∃ B, sameB s t = B := ⟨_, rfl⟩
  rw [hB]
  obtain ⟨a1, c1, a2, c2, rfl⟩ := h1.shape
  obtain ⟨x2, y2, hs2, rfl, hv2, hr2⟩ := h2.ex
  obtain ⟨b1, d1, rfl, _, _⟩ := hv2.rd.shape
  obtain ⟨b2, d2, rfl, _, _⟩ := hr2.rd.shape
  clear hv2 hr2
  generalize t.vars.length = n3 at *
  generalize hs2.length = n4 at *
  generalize hn1 : s.vars.length = n1 at *
  generalize hn2 : s.rows.length = n2 at *
  have q1 := heap_alloc_some (heap_alloc_at w (.cells #[.slice a1 n1 c1, .slice a2 n2 c2] 25) _ rfl) (.cells #[.slice b1 n3 d1, .slice b2 n4 d2] 25)
  have q2 : ((w.alloc (.cells #[.slice a1 n1 c1, .slice a2 n2 c2] 25)).alloc (.cells #[.slice b1 n3 d1, .slice b2 n4 d2] 25)).heap[w.heap.size + 1]? = some (.cells #[.slice b1 n3 d1, .slice b2 n4 d2] 25) := heap_alloc_at _ _ _ (by simp)
  have q3 := ((World.Fr.refl w []).alloc (.cells #[.slice a1 n1 c1, .slice a2 n2 c2] 25)).alloc (.cells #[.slice b1 n3 d1, .slice b2 n4 d2] 25)
  go_enter Tryz.func30, Tryz.ntmps30
  go_upto_region 1 with (fail)
  generalize hW : World.alloc (World.alloc w _) _ = W at *
  clear hW
  have o1 := h1.fr q3 (fun k _ => by simp)
  have k1 := rsame17 o1.rd (h2.still q3) ss
  have k2 := fun w' (hf : W.Fr w' []) => spoil82 (o1.fr hf (fun k _ => by simp)) ss.vars ss.rows ss.row
  rw [hB] at k1
  clear hB
  obtain ⟨p0, p1, pf⟩ := two q1
  obtain ⟨r0, r1, rf⟩ := two q2
  have K1 := Lib.hid k1; have K2 := Lib.hid k2; have Q1 := Lib.hid q1; have Q3 := Lib.hid q3
  clear k1 k2 q1 q2 q3 o1 h1 h2 ss hn1 hn2
  go_wp2_with fail
  (with_reducible refine K1.out.mono ?_)
  rintro x w1 ⟨rfl, hf1⟩
  have hq1 := hf1.heap Q1.out (by simp)
  have K3 := Lib.hid (K2.out w1 hf1)
  have Q4 := Lib.hid (Q3.out.trans hf1 (by simp))
  clear p0 p1 pf r0 r1 rf hf1 K1 K2 Q1
  obtain ⟨p0, p1, pf⟩ := two hq1
  go_wp2_with fail
  (with_reducible refine K3.out.mono ?_)
  rintro x w2 ⟨rfl, hf2⟩
  clear p0 p1 pf hq1 K3
  cases B with
  | true =>
    go_wp2
    go_ret
    exact ⟨by first | rfl | simp, (Q4.out.mono (by simp)).trans hf2 (fun k hk => .inl hk)⟩
  | false =>
    go_wp2
    go_ret
    exact ⟨by first | rfl | simp, (Q4.out.mono (by simp)).trans hf2 (fun k hk => .inl hk)⟩

theorem is30 {w0 w : World} {v1 v2 : Value} {s t : Tb} {e f : Int} (h1 : OwnTab w0 w v1 s) (h2 : RdTab w v2 t) (ss : Small s) :
    Calls Tryz.prog 30 #[v1, .int .i64 e, v2, .int .i64 f] w fun x w' => x = .returned (.bool (sameB s t && (e == f))) ∧ w0.Fr w' [] :=
  (is30L h1.lent h2 ss).mono fun _ _ ⟨he, hf⟩ => ⟨he, h1.fr.trans hf (fun _ hk => .inr (span_mem.1 hk).1)⟩
end Go.Proofs.YtikodapgceokhaaGreat
