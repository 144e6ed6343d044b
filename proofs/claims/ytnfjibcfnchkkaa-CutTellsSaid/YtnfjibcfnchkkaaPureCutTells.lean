/- The pure law of the cut: Tells. Conditions: none. -/
import Derived.Test.YtnfjibcfnchkkaaPe
