/- The pure law of the queue: Tells. Conditions: none. -/
import Derived.Test.YtclblogdciebnaaPd
