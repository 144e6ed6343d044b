/- The pure law of the cut: Union. Conditions: none. -/
import Derived.Test.YtnfjibcfnchkkaaPe
